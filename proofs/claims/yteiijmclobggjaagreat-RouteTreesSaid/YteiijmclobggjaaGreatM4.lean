/- Texts of this proof, one behind another. -/
import Derived.Test.YteiijmclobggjaaGreatM3
import Derived.Test.YteiijmclobggjaaGreatM2
import Derived.Shelf.SlLaysF
set_option linter.unusedVariables false
set_option linter.unusedSimpArgs false
/- Distance; looking for a core. -/
section
open Go Mk
namespace Go.Proofs.YteiijmclobggjaaGreat
set_option maxHeartbeats 8000000
attribute [local irreducible] Calls
noncomputable def dstI (nb : Int → List Pl) (s x : Int) : Int := @Classical.epsilon _ ⟨(0 : Int)⟩ (Dst nb s x)
theorem Dst.eq {nb : Int → List Pl} {s x d : Int} (h : Dst nb s x d) : dstI nb s x = d := (Classical.epsilon_spec_aux ⟨0⟩ (Dst nb s x) ⟨d, h⟩).uniq h
theorem valid_all {H : HwT} (h : validS H = 0) : namesB H = true ∧ countsB H = true ∧ (coresRB H && regionsRB H) = true ∧ alignRB H = true ∧ uniqueB H = true ∧ knownB H = true ∧ hierB H = true ∧ disjB H = true ∧ connB H = true := by
  unfold validS at h
  by_cases e1 : namesB H = false
  · rw [if_pos e1] at h; cases h
  rw [if_neg e1] at h
  by_cases e2 : countsB H = false
  · rw [if_pos e2] at h; cases h
  rw [if_neg e2] at h
  by_cases e3 : (coresRB H && regionsRB H) = false
  · rw [if_pos e3] at h; cases h
  rw [if_neg e3] at h
  by_cases e4 : alignRB H = false
  · rw [if_pos e4] at h; cases h
  rw [if_neg e4] at h
  by_cases e5 : uniqueB H = false
  · rw [if_pos e5] at h; cases h
  rw [if_neg e5] at h
  by_cases e6 : knownB H = false
  · rw [if_pos e6] at h; cases h
  rw [if_neg e6] at h
  by_cases e7 : hierB H = false
  · rw [if_pos e7] at h; cases h
  rw [if_neg e7] at h
  by_cases e8 : disjB H = false
  · rw [if_pos e8] at h; cases h
  rw [if_neg e8] at h
  by_cases e9 : connB H = false
  · rw [if_pos e9] at h; cases h
  exact ⟨by simpa using e1, by simpa using e2, by simpa using e3, by simpa using e4, by simpa using e5, by simpa using e6, by simpa using e7, by simpa using e8, by simpa using e9⟩
theorem valid_links {H : HwT} (h : validS H = 0) : LinksOk H.Links := by
  obtain ⟨-, h2, h3, -⟩ := valid_all h
  obtain ⟨-, -, -, l3, -⟩ := counts_le h2
  refine ⟨by omega, fun l hl => ?_⟩
  unfold coresRB at h3
  simp only [Bool.and_eq_true] at h3
  have := List.all_eq_true.1 h3.1.2.2 l hl
  simp [linkRB, isNodeB, isLatB] at this
  omega
noncomputable def checkS (H : HwT) (a b : Int) : Int := if validS H = 0 then (if a < 0 ∨ 64 ≤ a ∨ b < 0 ∨ 64 ≤ b then 6 else 0) else validS H
instance pg_check {Γ : Gho} {u : Value} {H : HwT} [hh : HwR Γ u H] (a b : Int) : PG Tryz.prog Γ 46 [u, .int .i64 a, .int .i64 b] (.int .i64 (checkS H a b)) := ⟨fun S w hw => by
  have hh' := hh
  obtain ⟨a1, n1, c1, a2, n2, c2, a3, n3, c3, a4, n4, c4, a5, n5, c5, cs, rfl, -⟩ := hh.h
  refine calls_of_W Tryz.func46 rfl rfl ?_
  repeat (first | refine byW ?_ | (refine byV ?_; intro w hw))
  refine lBox ?_
  intro b1 w hw
  have hw : Wd Γ (.blk b1 (.cells #[.string H.Name, .slice a1 n1 c1, .slice a2 n2 c2, .slice a3 n3 c3, .slice a4 n4 c4, .slice a5 n5 c5] 28) :: S) w := hw
  unfold checkS
  repeat (first | refine byW ?_ | (refine byV ?_; intro w hw))
  refine W_cond rfl (fun h => ?_) (fun h => ?_)
  · have h : ¬ validS H = 0 := by simpa using h
    rw [if_neg h]
    repeat (first | refine byW ?_ | (refine byV ?_; intro w hw))
    exact ⟨_, rfl, rfl, hw.drop⟩
  · have h : validS H = 0 := by simpa using h
    rw [if_pos h]
    repeat (first | refine byW ?_ | (refine byV ?_; intro w hw))
    refine W_cond rfl (fun h2 => ?_) (fun h2 => ?_)
    · have h2 : (((decide (a < 0) || decide (a ≥ 64)) || decide (b < 0)) || decide (b ≥ 64)) = true := h2
      rw [if_pos (by simp at h2; omega)]
      repeat (first | refine byW ?_ | (refine byV ?_; intro w hw))
      exact ⟨_, rfl, rfl, hw.drop⟩
    · have h2 : (((decide (a < 0) || decide (a ≥ 64)) || decide (b < 0)) || decide (b ≥ 64)) = false := h2
      rw [if_neg (by simp at h2; omega)]
      repeat (first | refine byW ?_ | (refine byV ?_; intro w hw))
      exact ⟨_, rfl, rfl, hw.drop⟩⟩

noncomputable def distS (H : HwT) (a b : Int) : Int × Int := if checkS H a b = 0 then (if dstI (nbrL H.Links) a b < 0 then (0, 60) else (dstI (nbrL H.Links) a b, 0)) else (0, checkS H a b)
theorem check_ok {H : HwT} {a b : Int} (h : checkS H a b = 0) : validS H = 0 ∧ 0 ≤ a ∧ a < 64 ∧ 0 ≤ b ∧ b < 64 := by
  unfold checkS at h
  by_cases e : validS H = 0
  · rw [if_pos e] at h
    by_cases e2 : a < 0 ∨ 64 ≤ a ∨ b < 0 ∨ 64 ≤ b
    · rw [if_pos e2] at h; cases h
    · exact ⟨e, by omega, by omega, by omega, by omega⟩
  · rw [if_neg e] at h; exact absurd h e
instance pg_Distance {Γ : Gho} {u : Value} {H : HwT} [hh : HwR Γ u H] (a b : Int) : PG Tryz.prog Γ 24 [u, .int .i64 a, .int .i64 b] (.tuple #[.int .i64 (distS H a b).1, .int .i64 (distS H a b).2]) := ⟨fun S w hw => by
  have hh' := hh
  obtain ⟨a1, n1, c1, a2, n2, c2, a3, n3, c3, a4, n4, c4, a5, n5, c5, cs, rfl, -⟩ := hh.h
  refine calls_of_W Tryz.func24 rfl rfl ?_
  repeat (first | refine byW ?_ | (refine byV ?_; intro w hw))
  refine lBox ?_
  intro b1 w hw
  have hw : Wd Γ (.blk b1 (.cells #[.string H.Name, .slice a1 n1 c1, .slice a2 n2 c2, .slice a3 n3 c3, .slice a4 n4 c4, .slice a5 n5 c5] 28) :: S) w := hw
  unfold distS
  repeat (first | refine byW ?_ | (refine byV ?_; intro w hw))
  refine W_cond rfl (fun h => ?_) (fun h => ?_)
  · have h : ¬ checkS H a b = 0 := by simpa using h
    rw [if_neg h]
    repeat (first | refine byW ?_ | (refine byV ?_; intro w hw))
    exact ⟨_, rfl, rfl, hw.drop⟩
  have h : checkS H a b = 0 := by simpa using h
  rw [if_pos h]
  obtain ⟨hv, ha0, ha1, hb0, hb1⟩ := check_ok h
  repeat (first | refine byW ?_ | (refine byV ?_; intro w hw))
  refine lCall ((distances_any (H := H) (valid_links hv) ⟨ha0, ha1⟩ hw).mono fun e w hq => ?_)
  obtain ⟨v, O, rfl, hO, hd, hw⟩ := hq
  obtain ⟨ao, no, co, rfl, hno, hnc, -⟩ := hw.own_shape (i := 0) rfl
  simp only [intRows, List.length_map] at hno
  obtain ⟨y, hy⟩ := get_lt (l := O) (k := b.toNat) (by omega)
  have hyb : oat O b = y := by unfold oat; rw [List.getD_eq_getElem?_getD, hy]; rfl
  have hdb := (hd b hb0 hb1).1
  rw [hyb] at hdb
  rw [hdb.eq]
  refine ⟨_, rfl, ?_⟩
  repeat (first | refine byW ?_ | (refine byV ?_; intro w hw))
  refine W_cond rfl (fun h => ?_) (fun h => ?_)
  · have h : y < 0 := of_decide_eq_true h
    rw [if_pos h]
    repeat (first | refine byW ?_ | (refine byV ?_; intro w hw))
    exact ⟨_, rfl, rfl, hw.ds [0, 0]⟩
  · have h : ¬ y < 0 := of_decide_eq_false h
    rw [if_neg h]
    repeat (first | refine byW ?_ | (refine byV ?_; intro w hw))
    exact ⟨_, rfl, rfl, hw.ds [0, 0]⟩⟩
end Go.Proofs.YteiijmclobggjaaGreat
end
/- Paths. -/
section
open Go Mk
namespace Go.Proofs.YteiijmclobggjaaGreat
set_option maxHeartbeats 8000000
attribute [local irreducible] Calls
def stepF (left : Int → Int) (c nx : Int) (q : Pl) : Int := if q.2 + left q.1 = left c ∧ (nx < 0 ∨ q.1 < nx) then q.1 else nx
def nextF (nb : Int → List Pl) (left : Int → Int) (c : Int) : Int := (nb c).foldl (stepF left c) (-1)
inductive PathP (nb : Int → List Pl) (left : Int → Int) (b : Int) : Int → List Int → Prop
  | nil : PathP nb left b b []
  | cons {c : Int} {l : List Int} : c ≠ b → PathP nb left b (nextF nb left c) l → PathP nb left b c (nextF nb left c :: l)
theorem fold_next {left : Int → Int} {c : Int} : ∀ (l : List Pl) (nx : Int), (nx = -1 ∨ 0 ≤ nx) → (∀ q ∈ l, 0 ≤ q.1) →
    (l.foldl (stepF left c) nx = nx ∧ ∀ q ∈ l, q.2 + left q.1 = left c → 0 ≤ nx ∧ nx ≤ q.1) ∨
    (∃ q ∈ l, q.2 + left q.1 = left c ∧ l.foldl (stepF left c) nx = q.1 ∧ (∀ r ∈ l, r.2 + left r.1 = left c → q.1 ≤ r.1) ∧ (0 ≤ nx → q.1 ≤ nx))
  | [], nx, _, _ => .inl ⟨rfl, by simp⟩
  | q :: l, nx, hx, hl => by
    have hq0 := hl q (by simp)
    rw [List.foldl_cons]
    by_cases e : q.2 + left q.1 = left c ∧ (nx < 0 ∨ q.1 < nx)
    · have hs : stepF left c nx q = q.1 := by unfold stepF; rw [if_pos e]
      rw [hs]
      rcases fold_next l q.1 (.inr hq0) (fun r hr => hl r (by simp [hr])) with ⟨h1, h2⟩ | ⟨r, hr, h1, h2, h3, h4⟩
      · refine .inr ⟨q, by simp, e.1, h1, fun r hr he => ?_, fun h0 => by omega⟩
        rcases List.mem_cons.1 hr with rfl | hr
        · omega
        · exact (h2 r hr he).2
      · refine .inr ⟨r, by simp [hr], h1, h2, fun t ht he => ?_, fun h0 => by have := h4 hq0; omega⟩
        rcases List.mem_cons.1 ht with rfl | ht
        · exact h4 hq0
        · exact h3 t ht he
    · have hs : stepF left c nx q = nx := by unfold stepF; rw [if_neg e]
      rw [hs]
      rcases fold_next l nx hx (fun r hr => hl r (by simp [hr])) with ⟨h1, h2⟩ | ⟨r, hr, h1, h2, h3, h4⟩
      · refine .inl ⟨h1, fun r hr he => ?_⟩
        rcases List.mem_cons.1 hr with rfl | hr
        · constructor <;> · have : ¬ (nx < 0 ∨ r.1 < nx) := fun hh => e ⟨he, hh⟩
                            omega
        · exact h2 r hr he
      · refine .inr ⟨r, by simp [hr], h1, h2, fun t ht he => ?_, h4⟩
        rcases List.mem_cons.1 ht with rfl | ht
        · have : ¬ (nx < 0 ∨ t.1 < nx) := fun hh => e ⟨he, hh⟩
          have := h4 (by omega)
          omega
        · exact h3 t ht he
theorem nbr_sym {ls : List LinkT} {x : Int} {q : Pl} (h : q ∈ nbrL ls x) : (x, q.2) ∈ nbrL ls q.1 := by
  unfold nbrL at h ⊢
  obtain ⟨l, hl, hq⟩ := List.mem_flatMap.1 h
  refine List.mem_flatMap.2 ⟨l, hl, ?_⟩
  rcases List.mem_append.1 hq with hq | hq
  · split at hq
    · rename_i e; simp only [List.mem_singleton] at hq; subst hq; subst e; simp
    · simp at hq
  · split at hq
    · rename_i e; simp only [List.mem_singleton] at hq; subst hq; subst e; simp
    · simp at hq
theorem nbr_pos {ls : List LinkT} {x : Int} {q : Pl} (hL : LinksOk ls) (h : q ∈ nbrL ls x) : 1 ≤ q.2 := by
  unfold nbrL at h
  obtain ⟨l, hl, hq⟩ := List.mem_flatMap.1 h
  have := hL.2 l hl
  rcases List.mem_append.1 hq with hq | hq <;>
  · split at hq
    · simp only [List.mem_singleton] at hq; subst hq; simp only []; omega
    · simp at hq
/-- From every node that is reached and is not the goal there is a next one. -/
theorem next_ok {ls : List LinkT} {b c : Int} {left : Int → Int} (hL : LinksOk ls) (hb : 0 ≤ b ∧ b < 64) (hl : ∀ x, 0 ≤ x → x < 64 → Dst (nbrL ls) b x (left x)) (hc : 0 ≤ c ∧ c < 64) (h0 : 0 ≤ left c) (hne : c ≠ b) :
    ∃ q ∈ nbrL ls c, q.2 + left q.1 = left c ∧ nextF (nbrL ls) left c = q.1 ∧ (∀ r ∈ nbrL ls c, r.2 + left r.1 = left c → q.1 ≤ r.1) ∧ 0 ≤ left q.1 ∧ 1 ≤ q.2 ∧ 0 ≤ q.1 ∧ q.1 < 64 := by
  have hn := nbr_ok hL hb
  have hex : ∃ q ∈ nbrL ls c, q.2 + left q.1 = left c := by
    rcases hl c hc.1 hc.2 with ⟨_, h1, h2⟩ | ⟨h1, -⟩
    · generalize hd : left c = d at *
      cases h1 with
      | refl => exact (hne rfl).elim
      | @step x d' q hx hq =>
        have hxr := hx.rng hn
        refine ⟨(x, q.2), nbr_sym hq, ?_⟩
        have hxn := hx.nonneg hn
        rcases hl x hxr.1 hxr.2 with ⟨_, k1, k2⟩ | ⟨_, k2⟩
        · have := k2 _ hx
          have := h2 _ (k1.step hq)
          simp only []
          omega
        · exact (k2 _ hx).elim
    · omega
  obtain ⟨q0, hq0, hq1⟩ := hex
  have hz := hn.rng c
  rcases fold_next (left := left) (c := c) (nbrL ls c) (-1) (.inl rfl) (fun q hq => (hz q hq).1) with ⟨h1, h2⟩ | ⟨q, hq, h1, h2, h3, -⟩
  · have := (h2 q0 hq0 hq1).1; omega
  · refine ⟨q, hq, h1, h2, h3, ?_, nbr_pos hL hq, (hz q hq).1, (hz q hq).2.1⟩
    rcases hl q.1 (hz q hq).1 (hz q hq).2.1 with ⟨k0, -, -⟩ | ⟨k1, k2⟩
    · exact k0
    · rcases hl c hc.1 hc.2 with ⟨_, m1, -⟩ | ⟨m1, -⟩
      · exact (k2 _ (m1.step hq)).elim
      · omega
end Go.Proofs.YteiijmclobggjaaGreat
end
/- Distances exist and are bounded. -/
section
open Go Mk
namespace Go.Proofs.YteiijmclobggjaaGreat

theorem Way.least {nb : Int → List Pl} {s L : Int} (hn : NbOk nb s L) {x : Int} : ∀ (n : Nat) (d : Int), Way nb s x d → d.toNat ≤ n → ∃ m, Way nb s x m ∧ ∀ d', Way nb s x d' → m ≤ d'
  | 0, d, h, hd => ⟨d, h, fun d' h' => by have := h'.nonneg hn; have := h.nonneg hn; omega⟩
  | n + 1, d, h, hd => by
    by_cases e : ∃ d', Way nb s x d' ∧ d' < d
    · obtain ⟨d', h', hlt⟩ := e
      have := h'.nonneg hn
      exact Way.least hn n d' h' (by omega)
    · exact ⟨d, h, fun d' h' => by
        by_cases hlt : d' < d
        · exact (e ⟨d', h', hlt⟩).elim
        · omega⟩
theorem dst_ex {nb : Int → List Pl} {s L : Int} (hn : NbOk nb s L) (x : Int) : Dst nb s x (dstI nb s x) := by
  have : ∃ d, Dst nb s x d := by
    by_cases h : ∃ d, Way nb s x d
    · obtain ⟨d, h⟩ := h
      obtain ⟨m, h1, h2⟩ := Way.least hn d.toNat d h (Nat.le_refl _)
      exact ⟨m, .inl ⟨h1.nonneg hn, h1, h2⟩⟩
    · exact ⟨-1, .inr ⟨rfl, fun d hd => h ⟨d, hd⟩⟩⟩
  obtain ⟨d, hd⟩ := this
  rw [hd.eq]; exact hd
/-- How many nodes are no farther than k. -/
noncomputable def cntD (nb : Int → List Pl) (s k : Int) : Nat := (List.range 64).countP fun y : Nat => decide (0 ≤ dstI nb s y) && decide (dstI nb s y ≤ k)
theorem countP_lt {α : Type} {p q : α → Bool} : ∀ (l : List α), (∀ x ∈ l, p x = true → q x = true) → (∃ x ∈ l, q x = true ∧ p x = false) → l.countP p + 1 ≤ l.countP q
  | [], _, ⟨x, hx, _⟩ => by simp at hx
  | y :: l, h, ⟨x, hx, h1, h2⟩ => by
    rw [List.countP_cons, List.countP_cons]
    have hle : l.countP p ≤ l.countP q := List.countP_mono_left fun x hx => h x (by simp [hx])
    have hy := h y (by simp)
    rcases List.mem_cons.1 hx with rfl | hx
    · rw [h1, h2]; simp; omega
    · have ih := countP_lt l (fun x hx => h x (by simp [hx])) ⟨x, hx, h1, h2⟩
      by_cases e : p y = true
      · rw [e, hy e]; simp; omega
      · have e : p y = false := by simpa using e
        rw [e]; simp only [Bool.false_eq_true, if_false]; omega
theorem dst_bound {ls : List LinkT} {s : Int} (hL : LinksOk ls) (hs : 0 ≤ s ∧ s < 64) : ∀ (n : Nat) (x : Int), (dstI (nbrL ls) s x).toNat ≤ n → 0 ≤ dstI (nbrL ls) s x → dstI (nbrL ls) s x + 1000000 ≤ 1000000 * (cntD (nbrL ls) s (dstI (nbrL ls) s x) : Int) := by
  have hn := nbr_ok hL hs
  have hself : ∀ x, 0 ≤ x → x < 64 → 0 ≤ dstI (nbrL ls) s x → 1 ≤ cntD (nbrL ls) s (dstI (nbrL ls) s x) := fun x h0 h1 hd => by
    unfold cntD
    refine List.countP_pos_iff.2 ⟨x.toNat, by simp; omega, ?_⟩
    rw [show ((x.toNat : Nat) : Int) = x by omega]
    simp [hd]
  intro n
  induction n with
  | zero =>
    intro x hx h0
    have hr : 0 ≤ x ∧ x < 64 := by
      rcases dst_ex hn x with ⟨-, h, -⟩ | ⟨h, -⟩
      · exact h.rng hn
      · omega
    have := hself x hr.1 hr.2 h0
    omega
  | succ n ih =>
    intro x hx h0
    rcases dst_ex hn x with ⟨-, hw, hmin⟩ | ⟨h, -⟩
    · have hr := hw.rng hn
      generalize hd : dstI (nbrL ls) s x = d at *
      cases hw with
      | refl =>
        have := hself s hs.1 hs.2 (by omega)
        rw [hd] at this
        omega
      | @step u d' q hu hq =>
        have hur := hu.rng hn
        have hqp := nbr_pos hL hq
        have hqr := hn.rng _ _ hq
        rcases dst_ex hn u with ⟨hu0, hu1, hu2⟩ | ⟨-, h⟩
        · have e1 := hu2 _ hu
          have e2 := hmin _ (hu1.step hq)
          have hi := ih u (by omega) hu0
          have hc : cntD (nbrL ls) s (dstI (nbrL ls) s u) + 1 ≤ cntD (nbrL ls) s (d' + q.2) := by
            unfold cntD
            refine countP_lt _ (fun y _ hy => ?_) ⟨q.1.toNat, by simp; omega, ?_, ?_⟩
            · simp at hy ⊢; omega
            · rw [show ((q.1.toNat : Nat) : Int) = q.1 by omega, hd]; simp; omega
            · rw [show ((q.1.toNat : Nat) : Int) = q.1 by omega, hd]; simp; omega
          omega
        · exact (h _ hu).elim
    · omega
theorem dst_le {ls : List LinkT} {s x : Int} (hL : LinksOk ls) (hs : 0 ≤ s ∧ s < 64) : -1 ≤ dstI (nbrL ls) s x ∧ dstI (nbrL ls) s x ≤ 63000000 := by
  have hn := nbr_ok hL hs
  rcases dst_ex hn x with ⟨h0, -⟩ | ⟨h, -⟩
  · have := dst_bound hL hs _ x (Nat.le_refl _) h0
    have h64 : cntD (nbrL ls) s (dstI (nbrL ls) s x) ≤ 64 := by
      unfold cntD; exact Nat.le_trans List.countP_le_length (by simp)
    omega
  · omega
end Go.Proofs.YteiijmclobggjaaGreat
end
/- Distance is a metric. -/
section
open Go Mk
namespace Go.Proofs.YteiijmclobggjaaGreat

theorem Way.trans {nb : Int → List Pl} {s x d : Int} (h : Way nb s x d) {y e : Int} (k : Way nb x y e) : Way nb s y (d + e) := by
  induction k with
  | refl => rw [Int.add_zero]; exact h
  | step _ hq ih => rw [← Int.add_assoc]; exact ih.step hq
theorem Way.one {nb : Int → List Pl} {x : Int} {q : Pl} (h : q ∈ nb x) : Way nb x q.1 q.2 := by
  have := (Way.refl (nb := nb) (s := x)).step h
  rwa [Int.zero_add] at this
theorem Way.symm {ls : List LinkT} {s x d : Int} (h : Way (nbrL ls) s x d) : Way (nbrL ls) x s d := by
  induction h with
  | refl => exact .refl
  | @step x d q _ hq ih =>
    have := (Way.one (nbr_sym hq)).trans ih
    simp only [] at this
    rwa [Int.add_comm] at this
theorem mem_nbr_ab {ls : List LinkT} {l : LinkT} (h : l ∈ ls) : (l.B, l.Latency) ∈ nbrL ls l.A := List.mem_flatMap.2 ⟨l, h, by simp⟩
theorem mem_nbr_ba {ls : List LinkT} {l : LinkT} (h : l ∈ ls) : (l.A, l.Latency) ∈ nbrL ls l.B := List.mem_flatMap.2 ⟨l, h, by simp⟩
theorem reach_way {ls : List LinkT} {s x : Int} (h : Reach ls s x) : ∃ d, Way (nbrL ls) s x d := by
  induction h with
  | refl => exact ⟨0, .refl⟩
  | ab hl _ ih => obtain ⟨d, ih⟩ := ih; exact ⟨_, ih.step (mem_nbr_ab hl)⟩
  | ba hl _ ih => obtain ⟨d, ih⟩ := ih; exact ⟨_, ih.step (mem_nbr_ba hl)⟩
theorem dstI_reach {ls : List LinkT} {s a b : Int} (hL : LinksOk ls) (ha : 0 ≤ a ∧ a < 64) (h1 : Reach ls s a) (h2 : Reach ls s b) : 0 ≤ dstI (nbrL ls) a b := by
  obtain ⟨d, h1⟩ := reach_way h1
  obtain ⟨e, h2⟩ := reach_way h2
  rcases dst_ex (nbr_ok hL ha) b with ⟨h, -⟩ | ⟨-, h⟩
  · exact h
  · exact (h _ (h1.symm.trans h2)).elim
end Go.Proofs.YteiijmclobggjaaGreat
end
/- The length of a path, over the links. -/
section
open Go Mk
namespace Go.Proofs.YteiijmclobggjaaGreat
end Go.Proofs.YteiijmclobggjaaGreat
end
/- All shortest ways at once: the invariant of the reference's matrix. -/
section
open Go Mk
namespace Go.Proofs.YteiijmclobggjaaGreat

abbrev Mx := Int → Int → Int
def nIn (x : Int) : Prop := 0 ≤ x ∧ x < 64
/-- A walk whose inner nodes are below m. -/
inductive WM (E : Mx) (m : Int) : Int → Int → Int → Prop
  | base {i k : Int} : nIn i → nIn k → 0 ≤ E i k → WM E m i k (E i k)
  | join {i c k x y : Int} : c < m → WM E m i c x → WM E m c k y → WM E m i k (x + y)
section
variable {E : Mx} {m i k L : Int}
theorem WM.nonneg (h : WM E m i k L) : 0 ≤ L := by
  induction h with
  | base _ _ h => exact h
  | join _ _ _ h1 h2 => omega
theorem WM.rng (h : WM E m i k L) : nIn i ∧ nIn k := by
  induction h with
  | base h1 h2 _ => exact ⟨h1, h2⟩
  | join _ _ _ h1 h2 => exact ⟨h1.1, h2.2⟩
theorem WM.more (h : WM E m i k L) : WM E (m + 1) i k L := by
  induction h with
  | base h1 h2 h3 => exact .base h1 h2 h3
  | join hc _ _ h1 h2 => exact .join (by omega) h1 h2
/-- One inner node more. -/
theorem WM.step (h : WM E (m + 1) i k L) : ∃ L', L' ≤ L ∧ (WM E m i k L' ∨ ∃ a b, L' = a + b ∧ WM E m i m a ∧ WM E m m k b) := by
  induction h with
  | base h1 h2 h3 => exact ⟨_, Int.le_refl _, .inl (.base h1 h2 h3)⟩
  | @join i c k x y hc _ _ ih1 ih2 =>
    obtain ⟨x', hx, h1⟩ := ih1
    obtain ⟨y', hy, h2⟩ := ih2
    by_cases e : c < m
    · rcases h1 with h1 | ⟨a, b, rfl, ha, hb⟩ <;> rcases h2 with h2 | ⟨a2, b2, rfl, ha2, hb2⟩
      · exact ⟨x' + y', by omega, .inl (.join e h1 h2)⟩
      · exact ⟨x' + a2 + b2, by omega, .inr ⟨x' + a2, b2, rfl, .join e h1 ha2, hb2⟩⟩
      · exact ⟨a + (b + y'), by omega, .inr ⟨a, b + y', rfl, ha, .join e hb h2⟩⟩
      · have := hb.nonneg; have := ha2.nonneg
        exact ⟨a + b2, by omega, .inr ⟨a, b2, rfl, ha, hb2⟩⟩
    · have e : c = m := by omega
      subst e
      rcases h1 with h1 | ⟨a, b, rfl, ha, hb⟩ <;> rcases h2 with h2 | ⟨a2, b2, rfl, ha2, hb2⟩
      · exact ⟨x' + y', by omega, .inr ⟨x', y', rfl, h1, h2⟩⟩
      · have := ha2.nonneg
        exact ⟨x' + b2, by omega, .inr ⟨x', b2, rfl, h1, hb2⟩⟩
      · have := hb.nonneg
        exact ⟨a + y', by omega, .inr ⟨a, y', rfl, ha, h2⟩⟩
      · have := hb.nonneg; have := ha2.nonneg
        exact ⟨a + b2, by omega, .inr ⟨a, b2, rfl, ha, hb2⟩⟩
end
/-- d is the least length of a walk whose inner nodes are below m, or -1. -/
def OkM (E : Mx) (m i k d : Int) : Prop := (d = -1 ∧ ∀ L, ¬ WM E m i k L) ∨ (0 ≤ d ∧ WM E m i k d ∧ ∀ L, WM E m i k L → d ≤ L)
theorem OkM.zero {E : Mx} (hE : ∀ i k, E i k = -1 ∨ 0 ≤ E i k) {i k : Int} (hi : nIn i) (hk : nIn k) : OkM E 0 i k (E i k) := by
  have hb : ∀ {i k L : Int}, WM E 0 i k L → L = E i k := fun {i k L} h => by
    induction h with
    | base => rfl
    | join hc h1 h2 => have := h1.rng.2; unfold nIn at this; omega
  rcases hE i k with h | h
  · refine .inl ⟨h, fun L hL => ?_⟩
    have h1 := hb hL
    have h2 := hL.nonneg
    omega
  · exact .inr ⟨h, .base hi hk h, fun L hL => by rw [hb hL]; exact Int.le_refl _⟩
/-- What the matrix holds while the node m is taken in, before the pair (i, k). -/
def FW (E D : Mx) (m i k : Int) : Prop := ∀ a b, nIn a → nIn b → if a < i ∨ (a = i ∧ b < k) then OkM E (m + 1) a b (D a b) else OkM E m a b (D a b)
def updM (D : Mx) (a b v : Int) : Mx := fun x y => if x = a ∧ y = b then v else D x y
def relaxB (D : Mx) (m i k : Int) : Bool := (decide (0 ≤ D i m) && decide (0 ≤ D m k)) && (decide (D i k < 0) || decide (D i m + D m k < D i k))
section
variable {E D : Mx} {m i k : Int}
theorem FW.either (h : FW E D m i k) {a b : Int} (ha : nIn a) (hb : nIn b) : (D a b = -1 ∨ 0 ≤ D a b) ∧ (0 ≤ D a b → WM E (m + 1) a b (D a b)) ∧ (∀ L, WM E m a b L → 0 ≤ D a b ∧ D a b ≤ L) := by
  have h1 := h a b ha hb
  split at h1
  · rcases h1 with ⟨h2, h3⟩ | ⟨h2, h3, h4⟩
    · exact ⟨.inl h2, fun h5 => by omega, fun L hL => absurd hL.more (h3 L)⟩
    · exact ⟨.inr h2, fun _ => h3, fun L hL => ⟨h2, h4 L hL.more⟩⟩
  · rcases h1 with ⟨h2, h3⟩ | ⟨h2, h3, h4⟩
    · exact ⟨.inl h2, fun h5 => by omega, fun L hL => absurd hL (h3 L)⟩
    · exact ⟨.inr h2, fun _ => h3.more, fun L hL => ⟨h2, h4 L hL⟩⟩
theorem FW.next (h : FW E D m i k) (hm : nIn m) (hi : nIn i) (hk : nIn k) : FW E (if relaxB D m i k = true then updM D i k (D i m + D m k) else D) m i (k + 1) := by
  intro a b ha hb
  by_cases e : a = i ∧ b = k
  · obtain ⟨rfl, rfl⟩ := e
    rw [if_pos (by omega)]
    obtain ⟨p1, p2, p3⟩ := h.either hi hm
    obtain ⟨q1, q2, q3⟩ := h.either hm hk
    have h0 := h a b hi hk
    rw [if_neg (by omega)] at h0
    by_cases c : relaxB D m a b = true
    · rw [if_pos c]
      unfold relaxB at c
      simp only [Bool.and_eq_true, Bool.or_eq_true, decide_eq_true_eq] at c
      obtain ⟨⟨c1, c2⟩, c3⟩ := c
      have hv : updM D a b (D a m + D m b) a b = D a m + D m b := by unfold updM; rw [if_pos ⟨rfl, rfl⟩]
      rw [hv]
      refine .inr ⟨by omega, .join (by omega) (p2 c1) (q2 c2), fun L hL => ?_⟩
      obtain ⟨L', hL', hs⟩ := hL.step
      rcases hs with hs | ⟨x, y, rfl, hx, hy⟩
      · rcases h0 with ⟨g1, g2⟩ | ⟨g1, g2, g3⟩
        · exact absurd hs (g2 L')
        · have := g3 L' hs; omega
      · have := p3 x hx; have := q3 y hy; omega
    · rw [if_neg c]
      unfold relaxB at c
      simp only [Bool.and_eq_true, Bool.or_eq_true, decide_eq_true_eq] at c
      rcases h0 with ⟨g1, g2⟩ | ⟨g1, g2, g3⟩
      · refine .inl ⟨g1, fun L hL => ?_⟩
        obtain ⟨L', hL', hs⟩ := hL.step
        rcases hs with hs | ⟨x, y, rfl, hx, hy⟩
        · exact g2 L' hs
        · have := p3 x hx; have := q3 y hy
          exact c ⟨⟨by omega, by omega⟩, .inl (by omega)⟩
      · refine .inr ⟨g1, g2.more, fun L hL => ?_⟩
        obtain ⟨L', hL', hs⟩ := hL.step
        rcases hs with hs | ⟨x, y, rfl, hx, hy⟩
        · have := g3 L' hs; omega
        · have := p3 x hx; have := q3 y hy
          have : ¬ D a m + D m b < D a b := fun hlt => c ⟨⟨by omega, by omega⟩, .inr hlt⟩
          omega
  · have hv : (if relaxB D m i k = true then updM D i k (D i m + D m k) else D) a b = D a b := by
      split
      · unfold updM; rw [if_neg e]
      · rfl
    rw [hv]
    have h0 := h a b ha hb
    by_cases c : a < i ∨ (a = i ∧ b < k)
    · rw [if_pos c] at h0; rw [if_pos (by omega)]; exact h0
    · rw [if_neg c] at h0; rw [if_neg (by omega)]; exact h0
theorem FW.row (h : FW E D m i 64) : FW E D m (i + 1) 0 := fun a b ha hb => by
  have h0 := h a b ha hb
  unfold nIn at hb
  by_cases c : a < i ∨ (a = i ∧ b < 64)
  · rw [if_pos c] at h0; rw [if_pos (by omega)]; exact h0
  · rw [if_neg c] at h0; rw [if_neg (by omega)]; exact h0
theorem FW.phase (h : FW E D m 64 0) : FW E D (m + 1) 0 0 := fun a b ha hb => by
  have h0 := h a b ha hb
  unfold nIn at ha hb
  rw [if_pos (by omega)] at h0
  rw [if_neg (by omega)]
  exact h0
end
/-! ### links -/
/-- A matrix of single links. -/
structure LinkM (ls : List LinkT) (E : Mx) : Prop where
  neg : ∀ i k, E i k = -1 ∨ 0 ≤ E i k
  self : ∀ i, nIn i → E i i = 0
  link : ∀ i k, nIn i → nIn k → i ≠ k → 0 ≤ E i k → ∃ l ∈ ls, ((l.A = i ∧ l.B = k) ∨ (l.A = k ∧ l.B = i)) ∧ E i k = l.Latency
  has : ∀ l ∈ ls, E l.A l.B = l.Latency ∧ E l.B l.A = l.Latency
section
variable {ls : List LinkT} {E : Mx} {m i k L : Int}
theorem LinkM.nbr (h : LinkM ls E) {q : Pl} (hq : q ∈ nbrL ls i) : E i q.1 = q.2 := by
  obtain ⟨l, hl, hq⟩ := List.mem_flatMap.1 hq
  have := h.has l hl
  rcases List.mem_append.1 hq with h1 | h1 <;> split at h1 <;> simp at h1
  · rename_i e; subst e; rw [h1]; exact this.1
  · rename_i e; subst e; rw [h1]; exact this.2
theorem LinkM.way (h : LinkM ls E) (hw : WM E m i k L) : Way (nbrL ls) i k L := by
  induction hw with
  | @base i k hi hk h0 =>
    by_cases e : i = k
    · subst e; rw [h.self i hi]; exact .refl
    · obtain ⟨l, hl, hc, hE⟩ := h.link i k hi hk e h0
      rw [hE]
      rcases hc with ⟨rfl, rfl⟩ | ⟨rfl, rfl⟩
      · have := (Way.refl (nb := nbrL ls) (s := l.A)).step (mem_nbr_ab hl)
        simpa using this
      · have := (Way.refl (nb := nbrL ls) (s := l.B)).step (mem_nbr_ba hl)
        simpa using this
  | join _ _ _ h1 h2 => exact h1.trans h2
theorem LinkM.walk (h : LinkM ls E) (hL : LinksOk ls) (hi : nIn i) (hw : Way (nbrL ls) i k L) : WM E 64 i k L := by
  induction hw with
  | refl =>
    have := WM.base (E := E) (m := 64) hi hi (by rw [h.self i hi]; omega)
    rwa [h.self i hi] at this
  | @step x d q hx hq ih =>
    have hxr := ih.rng.2
    have hr := (nbr_ok hL hi).rng x q hq
    have he := h.nbr hq
    have h2 := WM.base (E := E) (m := 64) hxr ⟨hr.1, hr.2.1⟩ (by rw [he]; exact hr.2.2.1)
    rw [he] at h2
    exact .join hxr.2 ih h2
theorem OkM.dst (h : LinkM ls E) (hL : LinksOk ls) (hi : nIn i) {d : Int} (ho : OkM E 64 i k d) : dstI (nbrL ls) i k = d := by
  refine Dst.eq ?_
  rcases ho with ⟨h1, h2⟩ | ⟨h1, h2, h3⟩
  · exact .inr ⟨h1, fun d' hw => h2 d' (h.walk hL hi hw)⟩
  · exact .inl ⟨h1, h.way h2, fun d' hw => h3 d' (h.walk hL hi hw)⟩
/-- Walks over few nodes are short. -/
theorem WM.short (h : LinkM ls E) (hL : LinksOk ls) (hw : WM E m i k L) : ∃ L', WM E m i k L' ∧ L' ≤ 63000000 := by
  obtain ⟨hi, hk⟩ := hw.rng
  let ins : Int → Bool := fun x => decide (x < m) || decide (x = i) || decide (x = k)
  let ls' := ls.filter fun l => ins l.A && ins l.B
  have hL' : LinksOk ls' := ⟨Nat.le_trans (List.length_filter_le _ _) hL.1, fun l hl => hL.2 l (List.mem_filter.1 hl).1⟩
  have hway : ∀ {a b d : Int}, WM E m a b d → ins a = true → ins b = true → Way (nbrL ls') a b d := fun {a b d} hw => by
    induction hw with
    | @base a b ha hb h0 =>
      intro h1 h2
      by_cases e : a = b
      · subst e; rw [h.self a ha]; exact .refl
      · obtain ⟨l, hl, hc, hE⟩ := h.link a b ha hb e h0
        rw [hE]
        have hl' : l ∈ ls' := List.mem_filter.2 ⟨hl, by rcases hc with ⟨rfl, rfl⟩ | ⟨rfl, rfl⟩ <;> simp only [h1, h2, Bool.and_true]⟩
        rcases hc with ⟨rfl, rfl⟩ | ⟨rfl, rfl⟩
        · have := (Way.refl (nb := nbrL ls') (s := l.A)).step (mem_nbr_ab hl')
          simpa using this
        · have := (Way.refl (nb := nbrL ls') (s := l.B)).step (mem_nbr_ba hl')
          simpa using this
    | @join a c b x y hc _ _ ih1 ih2 =>
      intro h1 h2
      have hci : ins c = true := by show (decide _ || decide _ || decide _) = true; rw [decide_eq_true hc]; simp
      exact (ih1 h1 hci).trans (ih2 hci h2)
  have hii : ins i = true := by show (decide _ || decide _ || decide _) = true; simp
  have hkk : ins k = true := by show (decide _ || decide _ || decide _) = true; simp
  have hwk := hway hw hii hkk
  have key : ∀ {x d : Int}, Way (nbrL ls') i x d → (∃ L', L' ≤ d ∧ WM E m i x L') ∨ ∃ L', L' ≤ d ∧ WM E m i k L' := fun {x d} hx => by
    induction hx with
    | refl =>
      have := WM.base (E := E) (m := m) hi hi (by rw [h.self i hi]; omega)
      rw [h.self i hi] at this
      exact .inl ⟨0, Int.le_refl _, this⟩
    | @step x d q hx hq ih =>
      have hr := (nbr_ok hL' hi).rng x q hq
      rcases ih with ⟨L', h1, h2⟩ | ⟨L', h1, h2⟩
      · have hq2 : q ∈ nbrL ls x := by
          obtain ⟨l, hl, hq⟩ := List.mem_flatMap.1 hq
          exact List.mem_flatMap.2 ⟨l, (List.mem_filter.1 hl).1, hq⟩
        have he := h.nbr hq2
        have hxr := h2.rng.2
        have h3 := WM.base (E := E) (m := m) hxr ⟨hr.1, hr.2.1⟩ (by rw [he]; exact hr.2.2.1)
        rw [he] at h3
        have hxin : ins x = true := by
          obtain ⟨l, hl, hq⟩ := List.mem_flatMap.1 hq
          have hl2 := (List.mem_filter.1 hl).2
          rw [Bool.and_eq_true] at hl2
          rcases List.mem_append.1 hq with g | g <;> split at g <;> simp at g
          · rename_i e; rw [← e]; exact hl2.1
          · rename_i e; rw [← e]; exact hl2.2
        have hxc : x < m ∨ x = i ∨ x = k := by
          have : (decide (x < m) || decide (x = i) || decide (x = k)) = true := hxin
          simp only [Bool.or_eq_true, decide_eq_true_eq] at this; omega
        rcases hxc with e | e | e
        · exact .inl ⟨L' + q.2, by omega, .join e h2 h3⟩
        · rw [e] at h3
          have := h2.nonneg
          exact .inl ⟨q.2, by omega, h3⟩
        · rw [e] at h2
          exact .inr ⟨L', by omega, h2⟩
      · exact .inr ⟨L', by omega, h2⟩
  have hd := dst_ex (nbr_ok hL' hi) k
  have hb := (dst_le (x := k) hL' hi).2
  rcases hd with ⟨-, h1, -⟩ | ⟨-, h1⟩
  · rcases key h1 with ⟨L', g1, g2⟩ | ⟨L', g1, g2⟩ <;> exact ⟨L', g2, by omega⟩
  · exact absurd hwk (h1 _)
theorem FW.bound (h : LinkM ls E) (hL : LinksOk ls) {D : Mx} (hF : FW E D m i k) {a b : Int} (ha : nIn a) (hb : nIn b) : -1 ≤ D a b ∧ D a b ≤ 63000000 := by
  have h1 := hF a b ha hb
  split at h1 <;> rcases h1 with ⟨h2, h3⟩ | ⟨h2, h3, h4⟩
  · omega
  · obtain ⟨L', g1, g2⟩ := h3.short h hL
    have := h4 L' g1; omega
  · omega
  · obtain ⟨L', g1, g2⟩ := h3.short h hL
    have := h4 L' g1; omega
end
/-! ### the links are entered -/
def linkStep (D : Mx) (l : LinkT) : Mx := updM (updM D l.A l.B l.Latency) l.B l.A l.Latency
def linkD (ls : List LinkT) : Mx := ls.foldl linkStep fun i k => if i = k then 0 else -1
theorem linkD_snoc {ls : List LinkT} {k : Nat} {l : LinkT} (h : ls[k]? = some l) : linkStep (linkD (ls.take k)) l = linkD (ls.take (k + 1)) := by
  unfold linkD
  rw [take_succ_of h, List.foldl_append]; rfl
theorem linkD_ok : ∀ (n : Nat) {ls : List LinkT}, ls.length = n → (∀ l ∈ ls, l.A ≠ l.B ∧ 0 ≤ l.Latency) → (ls.map linkKey).Nodup → LinkM ls (linkD ls)
  | 0, ls, hn, _, _ => by
    have : ls = [] := List.eq_nil_of_length_eq_zero hn
    subst this
    refine ⟨fun i k => ?_, fun i _ => by unfold linkD; simp, fun i k _ _ hne h0 => ?_, by simp⟩
    · unfold linkD
      by_cases e : i = k <;> simp [e]
    · unfold linkD at h0
      simp [hne] at h0
  | n + 1, ls, hn, hA, hk => by
    obtain ⟨l, hl⟩ := get_lt (l := ls) (k := n) (by omega)
    have hsp : ls = ls.take n ++ [l] := by rw [← take_succ_of hl, List.take_of_length_le (by omega)]
    have hlm := List.mem_of_getElem? hl
    have ih := linkD_ok n (ls := ls.take n) (by simp; omega) (fun x hx => hA x (List.mem_of_mem_take hx)) (hk.sublist ((List.take_sublist _ _).map _))
    have hD : linkD ls = linkStep (linkD (ls.take n)) l := by rw [linkD_snoc hl, List.take_of_length_le (by omega)]
    have hAB := hA l hlm
    have hfresh : ∀ x ∈ ls.take n, linkKey x ≠ linkKey l := fun x hx e => by
      rw [hsp, List.map_append, List.nodup_append] at hk
      exact hk.2.2 _ (List.mem_map_of_mem hx) _ (by simp) e
    have val : ∀ i k, linkD ls i k = if (i = l.B ∧ k = l.A) ∨ (i = l.A ∧ k = l.B) then l.Latency else linkD (ls.take n) i k := fun i k => by
      rw [hD]
      unfold linkStep updM
      by_cases e1 : i = l.B ∧ k = l.A
      · rw [if_pos e1, if_pos (.inl e1)]
      · rw [if_neg e1]
        by_cases e2 : i = l.A ∧ k = l.B
        · rw [if_pos e2, if_pos (.inr e2)]
        · rw [if_neg e2, if_neg (by rintro (h | h) <;> contradiction)]
    refine ⟨fun i k => ?_, fun i hi => ?_, fun i k hi hk' hne h0 => ?_, fun x hx => ?_⟩
    · rw [val]; split
      · exact .inr hAB.2
      · exact ih.neg i k
    · rw [val, if_neg (by rintro (⟨h1, h2⟩ | ⟨h1, h2⟩) <;> exact hAB.1 (by omega))]
      exact ih.self i hi
    · rw [val] at h0 ⊢
      split at h0
      · rename_i e
        rw [if_pos e]
        exact ⟨l, hlm, by omega, rfl⟩
      · rename_i e
        rw [if_neg e]
        obtain ⟨x, hx, h1, h2⟩ := ih.link i k hi hk' hne h0
        exact ⟨x, List.mem_of_mem_take hx, h1, h2⟩
    · rw [val, val]
      rw [hsp] at hx
      rcases List.mem_append.1 hx with hx | hx
      · have hne := hfresh x hx
        have h1 : ¬ ((x.A = l.B ∧ x.B = l.A) ∨ (x.A = l.A ∧ x.B = l.B)) := fun e => hne (by
          unfold linkKey
          rcases e with ⟨e1, e2⟩ | ⟨e1, e2⟩
          · rw [e1, e2]; simp only [Prod.mk.injEq]; omega
          · rw [e1, e2])
        have h2 : ¬ ((x.B = l.B ∧ x.A = l.A) ∨ (x.B = l.A ∧ x.A = l.B)) := fun e => h1 (by omega)
        rw [if_neg h1, if_neg h2]
        exact ih.has x hx
      · have := List.mem_singleton.1 hx
        subst this
        rw [if_pos (.inr ⟨rfl, rfl⟩), if_pos (.inl ⟨rfl, rfl⟩)]
        exact ⟨rfl, rfl⟩
end Go.Proofs.YteiijmclobggjaaGreat
end
/- The reference's overlap (printed by gen_rv6.py). -/
section
open Go Mk
namespace Go.Proofs.YteiijmclobggjaaGreat
set_option maxHeartbeats 16000000
attribute [local irreducible] Calls
def rowsF (E : List (Int × Int)) : List (List Value) := E.map fun p => [.int .u64 p.1]
def rowsS (E : List (Int × Int)) : List (List Value) := E.map fun p => [.int .u64 p.2]
def memE (m : MemT) : Int × Int := (m.Base, m.Size)
def devE (m : DevT) : Int × Int := (m.Base, m.Size)
def endE (p : Int × Int) : Int × Int := (p.1, IntKind.u64.wrap (p.1 + p.2))
theorem rowsF_snoc {α : Type} {f : α → Int × Int} {l : List α} {L : List (Int × Int)} {k : Nat} {x : α} (hx : l[k]? = some x) : rowsF (L ++ (l.take k).map f) ++ [[.int .u64 (f x).1]] = rowsF (L ++ (l.take (k + 1)).map f) := by rw [take_succ_of hx]; simp [rowsF]
theorem rowsS_snoc {α : Type} {f : α → Int × Int} {l : List α} {L : List (Int × Int)} {k : Nat} {x : α} (hx : l[k]? = some x) : rowsS (L ++ (l.take k).map f) ++ [[.int .u64 (f x).2]] = rowsS (L ++ (l.take (k + 1)).map f) := by rw [take_succ_of hx]; simp [rowsS]
theorem regs_E (H : HwT) : regs H = (H.Mems.map memE ++ H.Devs.map devE).map endE := by
  unfold regs
  rw [List.map_append, List.map_map, List.map_map]; rfl
theorem overlap_any {Γ : Gho} {S : List Res} {w : World} {u : Value} {H : HwT} [hh : HwR Γ u H] (hcnt : countsB H = true) (hw : Wd Γ S w) : Calls Tryz.prog 53 #[u] w fun e w' => e = .returned (.bool (!disjB H)) ∧ Wd Γ S w' := by
  obtain ⟨-, l1, l2, l3, l4, l5⟩ := counts_le hcnt
  obtain ⟨a1, n1, c1, a2, n2, c2, a3, n3, c3, a4, n4, c4, a5, n5, c5, cs, rfl, hcs, hok, hsz, r1, r2, r3, r4, r5⟩ := hh.h
  obtain ⟨hn4, hm4, hx4⟩ := rep_facts r4
  obtain ⟨hn5, hm5, hx5⟩ := rep_facts r5
  simp only [List.length_map] at hn4 hn5
  refine calls_of_W Tryz.func53 rfl rfl ?_
  repeat (first | refine byW ?_ | (refine byV ?_; intro w hw))
  refine lBox ?_
  intro b1 w hw
  have hw := Wd.addNil (a := none) (E := 63) (sz := 1) (Wd.addNil (a := none) (E := 63) (sz := 1) hw)
  have hw : Wd Γ (.own (.slice none 0 0) 63 1 (rowsF (([] : List (Int × Int)) ++ (H.Mems.take 0).map memE)) :: .own (.slice none 0 0) 63 1 (rowsS (([] : List (Int × Int)) ++ (H.Mems.take 0).map memE)) :: .blk b1 (hwC H a1 n1 c1 a2 n2 c2 a3 n3 c3 a4 n4 c4 a5 n5 c5) :: S) w := hw
  repeat (first | refine byW ?_ | (refine byV ?_; intro w hw))
  refine W_loop (fun μ ρ w => ∃ (k : Nat) (vb vs : Value), μ + k = n4 ∧ Has ρ [(1, .pointer (some ⟨b1, 0, none⟩)), (3, vb), (4, vs), (5, .int .i64 k)] ∧ Wd Γ (.own vb 63 1 (rowsF (([] : List (Int × Int)) ++ (H.Mems.take k).map memE)) :: .own vs 63 1 (rowsS (([] : List (Int × Int)) ++ (H.Mems.take k).map memE)) :: .blk b1 (hwC H a1 n1 c1 a2 n2 c2 a3 n3 c3 a4 n4 c4 a5 n5 c5) :: S) w) n4 ⟨0, _, _, by omega, ⟨rfl, rfl, rfl, rfl, trivial⟩, hw⟩ ?_
  clear hw
  rintro μ ρ w ⟨k, vb, vs, hk, hρ, hw⟩
  rw [hρ.eq]
  clear hρ
  repeat (first | refine byW ?_ | (refine byV ?_; intro w hw))
  refine W_cond rfl (fun h => ?_) (fun h => ?_)
  · have hkn : k < n4 := by have := of_decide_eq_true h; omega
    obtain ⟨x, hx⟩ := get_lt (l := H.Mems) (k := k) (by omega)
    obtain ⟨ab, mb, db, rfl, hmb, -, -⟩ := hw.own_shape (i := 0) rfl
    obtain ⟨as', ms, ds, rfl, hms, -, -⟩ := hw.own_shape (i := 1) rfl
    simp only [rowsF, rowsS, List.length_map, List.length_append, List.length_nil, List.length_take] at hmb hms
    repeat (first | refine byW ?_ | (refine byV ?_; intro w hw))
    refine lBuildSlice [[.int .u64 (memE x).1]] ?_
    intro at' w hw
    refine lApp (i := 1) (rows2 := [[.int .u64 (memE x).1]]) ?_ (Wd.own_rd (i := 0) hw rfl)
    intro vb' w hw
    have hw : Wd Γ (.own vb' 63 1 (rowsF (([] : List (Int × Int)) ++ (H.Mems.take (k + 1)).map memE)) :: .own (.slice as' ms ds) 63 1 (rowsS (([] : List (Int × Int)) ++ (H.Mems.take k).map memE)) :: .blk b1 (hwC H a1 n1 c1 a2 n2 c2 a3 n3 c3 a4 n4 c4 a5 n5 c5) :: S) w := by
      rw [← rowsF_snoc hx]; exact hw.drop
    repeat (first | refine byW ?_ | (refine byV ?_; intro w hw))
    refine lBuildSlice [[.int .u64 (memE x).2]] ?_
    intro at' w hw
    refine lApp (i := 2) (rows2 := [[.int .u64 (memE x).2]]) ?_ (Wd.own_rd (i := 0) hw rfl)
    intro vs' w hw
    have hw : Wd Γ (.own vb' 63 1 (rowsF (([] : List (Int × Int)) ++ (H.Mems.take (k + 1)).map memE)) :: .own vs' 63 1 (rowsS (([] : List (Int × Int)) ++ (H.Mems.take (k + 1)).map memE)) :: .blk b1 (hwC H a1 n1 c1 a2 n2 c2 a3 n3 c3 a4 n4 c4 a5 n5 c5) :: S) w := by
      rw [← rowsS_snoc hx]; exact hw.drop
    repeat (first | refine byW ?_ | (refine byV ?_; intro w hw))
    exact ⟨μ - 1, by omega, k + 1, _, _, by omega, ⟨rfl, rfl, rfl, rfl, trivial⟩, hw⟩
  have hkn : ¬ k < n4 := by have := of_decide_eq_false h; omega
  rw [List.take_of_length_le (l := H.Mems) (by omega)] at hw
  clear h hkn hk
  rw [List.nil_append, show H.Mems.map memE = H.Mems.map memE ++ (H.Devs.take 0).map devE from by simp] at hw
  repeat (first | refine byW ?_ | (refine byV ?_; intro w hw))
  refine W_loop (fun μ ρ w => ∃ (k : Nat) (vb vs : Value), μ + k = n5 ∧ Has ρ [(1, .pointer (some ⟨b1, 0, none⟩)), (3, vb), (4, vs), (6, .int .i64 k)] ∧ Wd Γ (.own vb 63 1 (rowsF (H.Mems.map memE ++ (H.Devs.take k).map devE)) :: .own vs 63 1 (rowsS (H.Mems.map memE ++ (H.Devs.take k).map devE)) :: .blk b1 (hwC H a1 n1 c1 a2 n2 c2 a3 n3 c3 a4 n4 c4 a5 n5 c5) :: S) w) n5 ⟨0, _, _, by omega, ⟨rfl, rfl, rfl, rfl, trivial⟩, hw⟩ ?_
  clear hw
  rintro μ ρ w ⟨k, vb, vs, hk, hρ, hw⟩
  rw [hρ.eq]
  clear hρ
  repeat (first | refine byW ?_ | (refine byV ?_; intro w hw))
  refine W_cond rfl (fun h => ?_) (fun h => ?_)
  · have hkn : k < n5 := by have := of_decide_eq_true h; omega
    obtain ⟨x, hx⟩ := get_lt (l := H.Devs) (k := k) (by omega)
    obtain ⟨ab, mb, db, rfl, hmb, -, -⟩ := hw.own_shape (i := 0) rfl
    obtain ⟨as', ms, ds, rfl, hms, -, -⟩ := hw.own_shape (i := 1) rfl
    simp only [rowsF, rowsS, List.length_map, List.length_append, List.length_nil, List.length_take] at hmb hms
    repeat (first | refine byW ?_ | (refine byV ?_; intro w hw))
    refine lBuildSlice [[.int .u64 (devE x).1]] ?_
    intro at' w hw
    refine lApp (i := 1) (rows2 := [[.int .u64 (devE x).1]]) ?_ (Wd.own_rd (i := 0) hw rfl)
    intro vb' w hw
    have hw : Wd Γ (.own vb' 63 1 (rowsF (H.Mems.map memE ++ (H.Devs.take (k + 1)).map devE)) :: .own (.slice as' ms ds) 63 1 (rowsS (H.Mems.map memE ++ (H.Devs.take k).map devE)) :: .blk b1 (hwC H a1 n1 c1 a2 n2 c2 a3 n3 c3 a4 n4 c4 a5 n5 c5) :: S) w := by
      rw [← rowsF_snoc hx]; exact hw.drop
    repeat (first | refine byW ?_ | (refine byV ?_; intro w hw))
    refine lBuildSlice [[.int .u64 (devE x).2]] ?_
    intro at' w hw
    refine lApp (i := 2) (rows2 := [[.int .u64 (devE x).2]]) ?_ (Wd.own_rd (i := 0) hw rfl)
    intro vs' w hw
    have hw : Wd Γ (.own vb' 63 1 (rowsF (H.Mems.map memE ++ (H.Devs.take (k + 1)).map devE)) :: .own vs' 63 1 (rowsS (H.Mems.map memE ++ (H.Devs.take (k + 1)).map devE)) :: .blk b1 (hwC H a1 n1 c1 a2 n2 c2 a3 n3 c3 a4 n4 c4 a5 n5 c5) :: S) w := by
      rw [← rowsS_snoc hx]; exact hw.drop
    repeat (first | refine byW ?_ | (refine byV ?_; intro w hw))
    exact ⟨μ - 1, by omega, k + 1, _, _, by omega, ⟨rfl, rfl, rfl, rfl, trivial⟩, hw⟩
  have hkn : ¬ k < n5 := by have := of_decide_eq_false h; omega
  rw [List.take_of_length_le (l := H.Devs) (by omega)] at hw
  clear h hkn hk
  have hregs := regs_E H
  have hel : (H.Mems.map memE ++ H.Devs.map devE).length ≤ 96 := by simp; omega
  generalize H.Mems.map memE ++ H.Devs.map devE = E at *
  obtain ⟨ab, mb, db, rfl, hmb, -, -⟩ := hw.own_shape (i := 0) rfl
  obtain ⟨as', ms, ds, rfl, hms, -, -⟩ := hw.own_shape (i := 1) rfl
  simp only [rowsF, rowsS, List.length_map] at hmb hms
  have hms' : ms = mb := by omega
  subst hms'
  have hw : Wd Γ (.own (.slice ab ms db) 63 1 (rowsF E) :: .own (.slice as' ms ds) 63 1 (rowsS E) :: .blk b1 (hwC H a1 n1 c1 a2 n2 c2 a3 n3 c3 a4 n4 c4 a5 n5 c5) :: S) w := hw
  repeat (first | refine byW ?_ | (refine byV ?_; intro w hw))
  refine W_loop (fun μ ρ w => ∃ (i : Nat), μ + i = ms ∧ Has ρ [(3, .slice ab ms db), (4, .slice as' ms ds), (7, .int .i64 i)] ∧ (∀ (i' k : Nat) (a b : Int × Int), i' < i → k < i' → E[i']? = some a → E[k]? = some b → apartB (endE a) (endE b) = true) ∧ Wd Γ (.own (.slice ab ms db) 63 1 (rowsF E) :: .own (.slice as' ms ds) 63 1 (rowsS E) :: .blk b1 (hwC H a1 n1 c1 a2 n2 c2 a3 n3 c3 a4 n4 c4 a5 n5 c5) :: S) w) ms ⟨0, by omega, ⟨rfl, rfl, rfl, trivial⟩, fun i' k a b h => by omega, hw⟩ ?_
  clear hw
  rintro μ ρ w ⟨i, hi, hρ, hall, hw⟩
  rw [hρ.eq]
  clear hρ
  repeat (first | refine byW ?_ | (refine byV ?_; intro w hw))
  refine W_cond rfl (fun h => ?_) (fun h => ?_)
  · have hin : i < ms := by have := of_decide_eq_true h; omega
    clear h
    obtain ⟨x, hx⟩ := get_lt (l := E) (k := i) (by omega)
    have hxf : (rowsF E)[i]? = some [.int .u64 x.1] := by unfold rowsF; rw [List.getElem?_map, hx]; rfl
    have hxs : (rowsS E)[i]? = some [.int .u64 x.2] := by unfold rowsS; rw [List.getElem?_map, hx]; rfl
    repeat (first | refine byW ?_ | (refine byV ?_; intro w hw))
    refine W_loop (fun μ2 ρ w => ∃ (k : Nat), μ2 + k = i ∧ Has ρ [(3, .slice ab ms db), (4, .slice as' ms ds), (7, .int .i64 i), (8, .int .i64 k)] ∧ (∀ (j : Nat) (b : Int × Int), j < k → E[j]? = some b → apartB (endE x) (endE b) = true) ∧ Wd Γ (.own (.slice ab ms db) 63 1 (rowsF E) :: .own (.slice as' ms ds) 63 1 (rowsS E) :: .blk b1 (hwC H a1 n1 c1 a2 n2 c2 a3 n3 c3 a4 n4 c4 a5 n5 c5) :: S) w) i ⟨0, by omega, ⟨rfl, rfl, rfl, rfl, trivial⟩, fun j b h => by omega, hw⟩ ?_
    clear hw
    rintro μ2 ρ w ⟨k, hk, hρ, hall2, hw⟩
    rw [hρ.eq]
    clear hρ
    repeat (first | refine byW ?_ | (refine byV ?_; intro w hw))
    refine W_cond rfl (fun h2 => ?_) (fun h2 => ?_)
    · have hki : k < i := by have := of_decide_eq_true h2; omega
      clear h2
      obtain ⟨y, hy⟩ := get_lt (l := E) (k := k) (by omega)
      unfold rowsF rowsS at hw
      repeat (first | refine byW ?_ | (refine byV ?_; intro w hw))
      refine W_quiet (by kernel_rfl) (by kernel_rfl) hw ?_
      repeat (first | refine Q_nil ?_ | (apply Q_plain; first | (apply Q_go; first | refine qP ?_ | refine qPg ?_) | refine qY ?_) | (apply Q_guarded; first | (apply Q_go; first | refine qPG ?_ | refine qPgG ?_) | refine qG ?_))
      intro w hw
      have hw : Wd Γ (.own (.slice ab ms db) 63 1 (rowsF E) :: .own (.slice as' ms ds) 63 1 (rowsS E) :: .blk b1 (hwC H a1 n1 c1 a2 n2 c2 a3 n3 c3 a4 n4 c4 a5 n5 c5) :: S) w := hw
      refine W_cond rfl (fun h3 => ?_) (fun h3 => ?_)
      · have hp : apartB (endE x) (endE y) = false := by unfold apartB; exact congrArg (fun b => !b) h3
        repeat (first | refine byW ?_ | (refine byV ?_; intro w hw))
        refine ⟨_, rfl, ret_b rfl ?_, hw.drop.drop.drop⟩
        have : disjB H = false := decP_f fun hP => by
          have h5 := hP i k (endE x) (endE y) hki (by rw [hregs, List.getElem?_map, hx]; rfl) (by rw [hregs, List.getElem?_map, hy]; rfl)
          rw [h5] at hp; cases hp
        rw [this]; rfl
      · have hp : apartB (endE x) (endE y) = true := by unfold apartB; exact congrArg (fun b => !b) h3
        repeat (first | refine byW ?_ | (refine byV ?_; intro w hw))
        refine ⟨μ2 - 1, by omega, k + 1, by omega, ⟨rfl, rfl, rfl, rfl, trivial⟩, fun j b hj hb => ?_, hw⟩
        by_cases e : j = k
        · subst e; rw [hy] at hb; cases hb; exact hp
        · exact hall2 j b (by omega) hb
    · have hki : ¬ k < i := by have := of_decide_eq_false h2; omega
      repeat (first | refine byW ?_ | (refine byV ?_; intro w hw))
      refine ⟨μ - 1, by omega, i + 1, by omega, ⟨rfl, rfl, rfl, trivial⟩, fun i' j a b h1 h3 ha hb => ?_, hw⟩
      by_cases e : i' = i
      · subst e; rw [hx] at ha; cases ha
        exact hall2 j b (by omega) hb
      · exact hall i' j a b (by omega) h3 ha hb
  · have hin : ¬ i < ms := by have := of_decide_eq_false h; omega
    repeat (first | refine byW ?_ | (refine byV ?_; intro w hw))
    refine ⟨_, rfl, ret_b rfl ?_, hw.drop.drop.drop⟩
    have : disjB H = true := decP_t fun p q a b hpq ha hb => by
      rw [hregs, List.getElem?_map] at ha hb
      cases ha' : E[p]? with
      | none => rw [ha'] at ha; cases ha
      | some a' =>
        cases hb' : E[q]? with
        | none => rw [hb'] at hb; cases hb
        | some b' =>
          rw [ha'] at ha; rw [hb'] at hb; cases ha; cases hb
          exact hall p q a' b' (by have := (List.getElem?_eq_some_iff.1 ha').1; omega) hpq ha' hb'
    rw [this]; rfl
end Go.Proofs.YteiijmclobggjaaGreat
end
/- The reference's Used and CoreAt (the same text as parts of Z33 and Z34: never import both). -/
section
open Go Mk
namespace Go.Proofs.YteiijmclobggjaaGreat
set_option maxHeartbeats 16000000
attribute [local irreducible] Calls
/-- The nodes that are marked. -/
def markN (R : List Bool) (xs : List Int) : List Bool := xs.foldl (fun R n => R.set n.toNat true) R
theorem markN_len : ∀ (xs : List Int) (R : List Bool), (markN R xs).length = R.length
  | [], R => rfl
  | x :: xs, R => by show (markN (R.set x.toNat true) xs).length = _; rw [markN_len xs]; simp
theorem markN_app (R : List Bool) (xs ys : List Int) : markN R (xs ++ ys) = markN (markN R xs) ys := by unfold markN; rw [List.foldl_append]
theorem markN_get : ∀ (xs : List Int) (R : List Bool) (k : Nat), (markN R xs)[k]? = some false → R[k]? = some false ∧ ∀ x ∈ xs, x.toNat ≠ k
  | [], R, k, h => ⟨h, by simp⟩
  | x :: xs, R, k, h => by
    obtain ⟨h1, h2⟩ := markN_get xs (R.set x.toNat true) k h
    rw [List.getElem?_set] at h1
    by_cases e : x.toNat = k
    · rw [if_pos e] at h1
      split at h1 <;> simp at h1
    · rw [if_neg e] at h1
      exact ⟨h1, fun y hy => by
        rcases List.mem_cons.1 hy with rfl | hy
        · exact e
        · exact h2 y hy⟩
theorem mark_step {α : Type} {f : α → Int} {l : List α} {R : List Bool} {L : List Int} {k : Nat} {x : α} (hx : l[k]? = some x) : (markN R (L ++ (l.take k).map f)).set (f x).toNat true = markN R (L ++ (l.take (k + 1)).map f) := by
  rw [take_succ_of hx, List.map_append, ← List.append_assoc, markN_app _ (L ++ (l.take k).map f)]; rfl
abbrev R64 : List Bool := List.replicate 64 false
abbrev hwCells (s : ByteArray) (a1 : Option Addr) (n1 c1 : Nat) (a2 : Option Addr) (n2 c2 : Nat) (a3 : Option Addr) (n3 c3 : Nat) (a4 : Option Addr) (n4 c4 : Nat) (a5 : Option Addr) (n5 c5 : Nat) : Obj := .cells #[.string s, .slice a1 n1 c1, .slice a2 n2 c2, .slice a3 n3 c3, .slice a4 n4 c4, .slice a5 n5 c5] 28
theorem rdS_facts {Γ : Gho} {S : List Res} {a : Option Addr} {n c sz : Nat} {rows : List (List Value)} (h : RdS Γ S (.slice a n c) sz rows) : n = rows.length ∧ n ≤ c ∧ c ≤ 9223372036854775807 := by
  obtain ⟨a', n', c', e, h1, h2, h3⟩ := h.shape
  cases e; exact ⟨h1, h2, h3⟩
theorem Used_any {Γ : Gho} {S : List Res} {w : World} {H : HwT} {s : ByteArray} {a1 : Option Addr} {n1 c1 : Nat} {a2 : Option Addr} {n2 c2 : Nat} {a3 : Option Addr} {n3 c3 : Nat} {a4 : Option Addr} {n4 c4 : Nat} {a5 : Option Addr} {n5 c5 : Nat} (r1 : RdS Γ S (.slice a1 n1 c1) 4 (H.Cores.map enc)) (r4 : RdS Γ S (.slice a4 n4 c4) 5 (H.Mems.map enc)) (r5 : RdS Γ S (.slice a5 n5 c5) 5 (H.Devs.map enc)) (hN : ∀ n ∈ usedN H, 0 ≤ n ∧ n < 64) (hw : Wd Γ S w) :
    Calls Tryz.prog 80 #[(.agg #[.string s, .slice a1 n1 c1, .slice a2 n2 c2, .slice a3 n3 c3, .slice a4 n4 c4, .slice a5 n5 c5])] w fun e w' => e = .returned (.agg ((markN R64 (usedN H)).map Value.bool).toArray) ∧ Wd Γ S w' := by
  obtain ⟨hn1, hm1, hx1⟩ := rdS_facts r1
  obtain ⟨hn4, hm4, hx4⟩ := rdS_facts r4
  obtain ⟨hn5, hm5, hx5⟩ := rdS_facts r5
  simp only [List.length_map] at hn1 hn4 hn5
  refine calls_of_WC Tryz.func80 rfl rfl ?_
  repeat (first | refine byW ?_ | (refine byV ?_; intro w hw))
  refine lBox ?_
  intro b1 w hw
  refine lAlloc ?_
  intro b2 w hw
  repeat (first | refine byW ?_ | (refine byV ?_; intro w hw))
  refine lAlloc ?_
  intro b3 w hw
  have hw : Wd Γ (.blk b3 (.cells ((markN R64 ([] ++ (H.Cores.take 0).map (fun c => c.Node))).map Value.bool).toArray 128) :: .blk b2 (.cells (R64.map Value.bool).toArray 128) :: .blk b1 (hwCells s a1 n1 c1 a2 n2 c2 a3 n3 c3 a4 n4 c4 a5 n5 c5) :: S) w := hw
  repeat (first | refine byW ?_ | (refine byV ?_; intro w hw))
  refine W_loop (fun μ ρ w => ∃ (k : Nat), μ + k = n1 ∧ Has ρ [(1, .pointer (some ⟨b1, 0, none⟩)), (2, .pointer (some ⟨b2, 0, none⟩)), (3, .pointer (some ⟨b3, 0, none⟩)), (4, .int .i64 (k : Nat))] ∧ Wd Γ (.blk b3 (.cells ((markN R64 ([] ++ (H.Cores.take k).map (fun c => c.Node))).map Value.bool).toArray 128) :: .blk b2 (.cells (R64.map Value.bool).toArray 128) :: .blk b1 (hwCells s a1 n1 c1 a2 n2 c2 a3 n3 c3 a4 n4 c4 a5 n5 c5) :: S) w) n1 ⟨0, by omega, ⟨rfl, rfl, rfl, rfl, trivial⟩, hw⟩ ?_
  clear hw
  rintro μ ρ w ⟨k, hk, hρ, hw⟩
  rw [hρ.eq]
  have q1 : RdS Γ (.blk b3 (.cells ((markN R64 ([] ++ (H.Cores.take k).map (fun c => c.Node))).map Value.bool).toArray 128) :: .blk b2 (.cells (R64.map Value.bool).toArray 128) :: .blk b1 (hwCells s a1 n1 c1 a2 n2 c2 a3 n3 c3 a4 n4 c4 a5 n5 c5) :: S) (.slice a1 n1 c1) 4 (H.Cores.map enc) := r1.cons.cons.cons
  repeat (first | refine byW ?_ | (refine byV ?_; intro w hw))
  refine W_cond rfl (fun h => ?_) (fun h => ?_)
  · have hkn : k < n1 := by simpa using h
    obtain ⟨x, hx⟩ := get_lt (l := H.Cores) (k := k) (by omega)
    obtain ⟨hx0, hx1'⟩ := hN x.Node (List.mem_append_left _ (List.mem_append_left _ (List.mem_map_of_mem (List.mem_of_getElem? hx))))
    repeat (first | refine byW ?_ | (refine byV ?_; intro w hw))
    refine lStore (o := 0 + x.Node.toNat * 1) (ho := by simp [markN_len]; omega) ?_
    intro w hw
    have hw : Wd Γ (.blk b3 (.cells (putCells ((markN R64 ([] ++ (H.Cores.take k).map (fun c => c.Node))).map Value.bool).toArray (0 + x.Node.toNat * 1) [.bool true]) 128) :: .blk b2 (.cells (R64.map Value.bool).toArray 128) :: .blk b1 (hwCells s a1 n1 c1 a2 n2 c2 a3 n3 c3 a4 n4 c4 a5 n5 c5) :: S) w := hw
    rw [putBool (by simp [markN_len]; omega), mark_step (f := fun c => c.Node) hx] at hw
    clear q1
    repeat (first | refine byW ?_ | (refine byV ?_; intro w hw))
    exact ⟨μ - 1, by omega, k + 1, by omega, ⟨rfl, rfl, rfl, rfl, trivial⟩, hw⟩
  have hkn : ¬ k < n1 := by simpa using h
  rw [List.take_of_length_le (l := H.Cores) (by omega)] at hw
  clear h hkn hρ hk q1
  rw [show [] ++ H.Cores.map (fun c => c.Node) = H.Cores.map (fun c => c.Node) ++ (H.Mems.take 0).map (fun c => c.Node) from by simp] at hw
  repeat (first | refine byW ?_ | (refine byV ?_; intro w hw))
  refine W_loop (fun μ ρ w => ∃ (k : Nat), μ + k = n4 ∧ Has ρ [(1, .pointer (some ⟨b1, 0, none⟩)), (2, .pointer (some ⟨b2, 0, none⟩)), (3, .pointer (some ⟨b3, 0, none⟩)), (5, .int .i64 (k : Nat))] ∧ Wd Γ (.blk b3 (.cells ((markN R64 (H.Cores.map (fun c => c.Node) ++ (H.Mems.take k).map (fun c => c.Node))).map Value.bool).toArray 128) :: .blk b2 (.cells (R64.map Value.bool).toArray 128) :: .blk b1 (hwCells s a1 n1 c1 a2 n2 c2 a3 n3 c3 a4 n4 c4 a5 n5 c5) :: S) w) n4 ⟨0, by omega, ⟨rfl, rfl, rfl, rfl, trivial⟩, hw⟩ ?_
  clear hw
  rintro μ ρ w ⟨k, hk, hρ, hw⟩
  rw [hρ.eq]
  have q1 : RdS Γ (.blk b3 (.cells ((markN R64 (H.Cores.map (fun c => c.Node) ++ (H.Mems.take k).map (fun c => c.Node))).map Value.bool).toArray 128) :: .blk b2 (.cells (R64.map Value.bool).toArray 128) :: .blk b1 (hwCells s a1 n1 c1 a2 n2 c2 a3 n3 c3 a4 n4 c4 a5 n5 c5) :: S) (.slice a4 n4 c4) 5 (H.Mems.map enc) := r4.cons.cons.cons
  repeat (first | refine byW ?_ | (refine byV ?_; intro w hw))
  refine W_cond rfl (fun h => ?_) (fun h => ?_)
  · have hkn : k < n4 := by simpa using h
    obtain ⟨x, hx⟩ := get_lt (l := H.Mems) (k := k) (by omega)
    obtain ⟨hx0, hx1'⟩ := hN x.Node (List.mem_append_left _ (List.mem_append_right _ (List.mem_map_of_mem (List.mem_of_getElem? hx))))
    repeat (first | refine byW ?_ | (refine byV ?_; intro w hw))
    refine lStore (o := 0 + x.Node.toNat * 1) (ho := by simp [markN_len]; omega) ?_
    intro w hw
    have hw : Wd Γ (.blk b3 (.cells (putCells ((markN R64 (H.Cores.map (fun c => c.Node) ++ (H.Mems.take k).map (fun c => c.Node))).map Value.bool).toArray (0 + x.Node.toNat * 1) [.bool true]) 128) :: .blk b2 (.cells (R64.map Value.bool).toArray 128) :: .blk b1 (hwCells s a1 n1 c1 a2 n2 c2 a3 n3 c3 a4 n4 c4 a5 n5 c5) :: S) w := hw
    rw [putBool (by simp [markN_len]; omega), mark_step (f := fun c => c.Node) hx] at hw
    clear q1
    repeat (first | refine byW ?_ | (refine byV ?_; intro w hw))
    exact ⟨μ - 1, by omega, k + 1, by omega, ⟨rfl, rfl, rfl, rfl, trivial⟩, hw⟩
  have hkn : ¬ k < n4 := by simpa using h
  rw [List.take_of_length_le (l := H.Mems) (by omega)] at hw
  clear h hkn hρ hk q1
  rw [show H.Cores.map (fun c => c.Node) ++ H.Mems.map (fun c => c.Node) = (H.Cores.map (fun c => c.Node) ++ H.Mems.map (fun c => c.Node)) ++ (H.Devs.take 0).map (fun c => c.Node) from by simp] at hw
  repeat (first | refine byW ?_ | (refine byV ?_; intro w hw))
  refine W_loop (fun μ ρ w => ∃ (k : Nat), μ + k = n5 ∧ Has ρ [(1, .pointer (some ⟨b1, 0, none⟩)), (2, .pointer (some ⟨b2, 0, none⟩)), (3, .pointer (some ⟨b3, 0, none⟩)), (6, .int .i64 (k : Nat))] ∧ Wd Γ (.blk b3 (.cells ((markN R64 ((H.Cores.map (fun c => c.Node) ++ H.Mems.map (fun c => c.Node)) ++ (H.Devs.take k).map (fun c => c.Node))).map Value.bool).toArray 128) :: .blk b2 (.cells (R64.map Value.bool).toArray 128) :: .blk b1 (hwCells s a1 n1 c1 a2 n2 c2 a3 n3 c3 a4 n4 c4 a5 n5 c5) :: S) w) n5 ⟨0, by omega, ⟨rfl, rfl, rfl, rfl, trivial⟩, hw⟩ ?_
  clear hw
  rintro μ ρ w ⟨k, hk, hρ, hw⟩
  rw [hρ.eq]
  have q1 : RdS Γ (.blk b3 (.cells ((markN R64 ((H.Cores.map (fun c => c.Node) ++ H.Mems.map (fun c => c.Node)) ++ (H.Devs.take k).map (fun c => c.Node))).map Value.bool).toArray 128) :: .blk b2 (.cells (R64.map Value.bool).toArray 128) :: .blk b1 (hwCells s a1 n1 c1 a2 n2 c2 a3 n3 c3 a4 n4 c4 a5 n5 c5) :: S) (.slice a5 n5 c5) 5 (H.Devs.map enc) := r5.cons.cons.cons
  repeat (first | refine byW ?_ | (refine byV ?_; intro w hw))
  refine W_cond rfl (fun h => ?_) (fun h => ?_)
  · have hkn : k < n5 := by simpa using h
    obtain ⟨x, hx⟩ := get_lt (l := H.Devs) (k := k) (by omega)
    obtain ⟨hx0, hx1'⟩ := hN x.Node (List.mem_append_right _ (List.mem_map_of_mem (List.mem_of_getElem? hx)))
    repeat (first | refine byW ?_ | (refine byV ?_; intro w hw))
    refine lStore (o := 0 + x.Node.toNat * 1) (ho := by simp [markN_len]; omega) ?_
    intro w hw
    have hw : Wd Γ (.blk b3 (.cells (putCells ((markN R64 ((H.Cores.map (fun c => c.Node) ++ H.Mems.map (fun c => c.Node)) ++ (H.Devs.take k).map (fun c => c.Node))).map Value.bool).toArray (0 + x.Node.toNat * 1) [.bool true]) 128) :: .blk b2 (.cells (R64.map Value.bool).toArray 128) :: .blk b1 (hwCells s a1 n1 c1 a2 n2 c2 a3 n3 c3 a4 n4 c4 a5 n5 c5) :: S) w := hw
    rw [putBool (by simp [markN_len]; omega), mark_step (f := fun c => c.Node) hx] at hw
    clear q1
    repeat (first | refine byW ?_ | (refine byV ?_; intro w hw))
    exact ⟨μ - 1, by omega, k + 1, by omega, ⟨rfl, rfl, rfl, rfl, trivial⟩, hw⟩
  have hkn : ¬ k < n5 := by simpa using h
  rw [List.take_of_length_le (l := H.Devs) (by omega)] at hw
  clear h hkn hρ hk q1
  repeat (first | refine byW ?_ | (refine byV ?_; intro w hw))
  have hl : (markN R64 (usedN H)).length = 64 := by rw [markN_len]; simp
  obtain ⟨R, hR⟩ : ∃ R, R = markN R64 (usedN H) := ⟨_, rfl⟩
  have hw : Wd Γ (.blk b3 (.cells (R.map Value.bool).toArray 128) :: .blk b2 (.cells (R64.map Value.bool).toArray 128) :: .blk b1 (hwCells s a1 n1 c1 a2 n2 c2 a3 n3 c3 a4 n4 c4 a5 n5 c5) :: S) w := by rw [hR]; exact hw
  rw [← hR] at hl ⊢
  refine lY (v := .agg (R.map Value.bool).toArray) ?_ (hy := y_lwb (i := 0) hw rfl rfl (by simp [hl]))
  refine lStore (vs := R.map Value.bool) ?_ (hl := by simp [hl]) (h1 := by simp [Value.oneCell']) (ho := by simp) (hv := by simp [Value.cells])
  intro w hw
  have hw : Wd Γ (.blk b3 (.cells (R.map Value.bool).toArray 128) :: .blk b2 (.cells (putCells (R64.map Value.bool).toArray 0 (R.map Value.bool)) 128) :: .blk b1 (hwCells s a1 n1 c1 a2 n2 c2 a3 n3 c3 a4 n4 c4 a5 n5 c5) :: S) w := hw
  rw [show putCells (R64.map Value.bool).toArray 0 (R.map Value.bool) = (R.map Value.bool).toArray from by unfold putCells; simp [hl]] at hw
  repeat (first | refine byW ?_ | (refine byV ?_; intro w hw))
  exact ⟨[.agg (R.map Value.bool).toArray], ⟨resC (i := 1) hw rfl rfl (by simp [hl]), trivial⟩, rfl, hw.drop.drop.drop⟩
/-- The place of the first core with an ID, or -1. -/
def coreAt (l : List CoreT) (id : Int) : Int := match l.findIdx? (fun x => decide (x.ID = id)) with | some k => k | none => -1
theorem coreAt_some {l : List CoreT} {id : Int} {k : Nat} {x : CoreT} (hx : l[k]? = some x) (he : x.ID = id) (hl : ∀ j y, j < k → l[j]? = some y → y.ID ≠ id) : coreAt l id = k := by
  have : l.findIdx? (fun x => decide (x.ID = id)) = some k := by
    obtain ⟨hk, hg⟩ := List.getElem?_eq_some_iff.1 hx
    rw [List.findIdx?_eq_some_iff_getElem]
    refine ⟨hk, by rw [hg]; simpa using he, fun j hj => ?_⟩
    have := hl j l[j] hj (List.getElem?_eq_getElem _)
    simpa using this
  unfold coreAt; rw [this]
theorem coreAt_none {l : List CoreT} {id : Int} (hl : ∀ y ∈ l, y.ID ≠ id) : coreAt l id = -1 := by
  have : l.findIdx? (fun x => decide (x.ID = id)) = none := by
    rw [List.findIdx?_eq_none_iff]
    intro y hy; simpa using hl y hy
  unfold coreAt; rw [this]
theorem coreAt_any {l : List CoreT} {id : Int} : decide (0 ≤ coreAt l id) = l.any fun x => decide (x.ID = id) := by
  unfold coreAt
  cases h : l.findIdx? (fun x => decide (x.ID = id)) with
  | none =>
    rw [List.findIdx?_eq_none_iff] at h
    symm
    show _ = false
    rw [List.any_eq_false]
    intro x hx; simpa using h x hx
  | some k =>
    have h0 : (0 : Int) ≤ (k : Int) := by omega
    show decide ((0 : Int) ≤ (k : Int)) = _
    rw [decide_eq_true h0]
    symm
    obtain ⟨hk, hg, -⟩ := List.findIdx?_eq_some_iff_getElem.1 h
    exact List.any_eq_true.2 ⟨l[k], List.getElem_mem hk, hg⟩
theorem CoreAt_any {Γ : Gho} {S : List Res} {w : World} {l : List CoreT} {u0 u2 u3 u4 u5 : Value} {s : ByteArray} {a1 : Option Addr} {n1 c1 : Nat} {id : Int} (r1 : RdS Γ S (.slice a1 n1 c1) 4 (l.map enc)) (hu : u0 = .agg #[.string s, .slice a1 n1 c1, u2, u3, u4, u5]) (h2 : u2.oneCell' = true) (h3 : u3.oneCell' = true) (h4 : u4.oneCell' = true) (h5 : u5.oneCell' = true) (hw : Wd Γ S w) :
    Calls Tryz.prog 36 #[u0, .int .i64 id] w fun e w' => e = .returned (.int .i64 (coreAt l id)) ∧ Wd Γ S w' := by
  subst hu
  obtain ⟨hn1, hm1, hx1⟩ := rdS_facts r1
  simp only [List.length_map] at hn1
  refine calls_of_W Tryz.func36 rfl rfl ?_
  repeat (first | refine byW ?_ | (refine byV ?_; intro w hw))
  refine lBox ?_
  intro b1 w hw
  have hw : Wd Γ (.blk b1 (.cells (#[.string s, .slice a1 n1 c1, u2, u3, u4, u5] : Array Value) 28) :: S) w := by
    have e : (Value.agg #[.string s, .slice a1 n1 c1, u2, u3, u4, u5]).cells = #[.string s, .slice a1 n1 c1, u2, u3, u4, u5] := rfl
    rw [e] at hw; exact hw
  repeat (first | refine byW ?_ | (refine byV ?_; intro w hw))
  refine W_loop (fun μ ρ w => ∃ (k : Nat), μ + k = n1 ∧ (∀ j y, j < k → l[j]? = some y → y.ID ≠ id) ∧ Has ρ [(1, .int .i64 id), (2, .pointer (some ⟨b1, 0, none⟩)), (5, .int .i64 (k : Nat))] ∧ Wd Γ (.blk b1 (.cells (#[.string s, .slice a1 n1 c1, u2, u3, u4, u5] : Array Value) 28) :: S) w) n1 ⟨0, by omega, by simp, ⟨rfl, rfl, rfl, trivial⟩, hw⟩ ?_
  clear hw
  rintro μ ρ w ⟨k, hk, hj, hρ, hw⟩
  rw [hρ.eq]
  have q1 : RdS Γ (.blk b1 (.cells (#[.string s, .slice a1 n1 c1, u2, u3, u4, u5] : Array Value) 28) :: S) (.slice a1 n1 c1) 4 (l.map enc) := r1.cons
  repeat (first | refine byW ?_ | (refine byV ?_; intro w hw))
  refine W_cond rfl (fun h => ?_) (fun h => ?_)
  · have hkn : k < n1 := by simpa using h
    obtain ⟨x, hx⟩ := get_lt (l := l) (k := k) (by omega)
    repeat (first | refine byW ?_ | (refine byV ?_; intro w hw))
    refine W_cond rfl (fun h2 => ?_) (fun h2 => ?_)
    · rw [coreAt_some hx (of_decide_eq_true h2) hj]
      repeat (first | refine byW ?_ | (refine byV ?_; intro w hw))
      exact ⟨_, rfl, rfl, hw.drop⟩
    · repeat (first | refine byW ?_ | (refine byV ?_; intro w hw))
      refine ⟨μ - 1, by omega, k + 1, by omega, fun j y hjk hy => ?_, ⟨rfl, rfl, rfl, trivial⟩, hw⟩
      rcases Nat.lt_succ_iff_lt_or_eq.1 hjk with hlt | rfl
      · exact hj j y hlt hy
      · rw [hx] at hy; cases hy
        exact of_decide_eq_false h2
  have hkn : ¬ k < n1 := by simpa using h
  rw [coreAt_none (fun y hy => by
    obtain ⟨j, hj2⟩ := List.getElem?_of_mem hy
    exact hj j y (by have := (List.getElem?_eq_some_iff.1 hj2).1; omega) hj2)]
  repeat (first | refine byW ?_ | (refine byV ?_; intro w hw))
  exact ⟨_, rfl, rfl, hw.drop⟩

instance pg_CoreAt {Γ : Gho} {u : Value} {H : HwT} {id : Int} [hh : HwR Γ u H] : PG Tryz.prog Γ 36 [u, .int .i64 id] (.int .i64 (coreAt H.Cores id)) := ⟨fun S w hw => by
  obtain ⟨a1, n1, c1, a2, n2, c2, a3, n3, c3, a4, n4, c4, a5, n5, c5, cs, rfl, -, -, -, r1, -⟩ := hh.h
  exact CoreAt_any r1.rdS rfl rfl rfl rfl rfl hw⟩
end Go.Proofs.YteiijmclobggjaaGreat
end
/- The reference's connected (printed by gen_rv7.py). -/
section
open Go Mk
namespace Go.Proofs.YteiijmclobggjaaGreat
set_option maxHeartbeats 16000000
attribute [local irreducible] Calls
theorem mark_true : ∀ (xs : List Int) (R : List Bool) (k : Nat), (markN R xs)[k]? = some true → R[k]? = some true ∨ ∃ x ∈ xs, x.toNat = k
  | [], R, k, h => .inl h
  | x :: xs, R, k, h => by
    have h : (markN (R.set x.toNat true) xs)[k]? = some true := h
    rcases mark_true xs _ k h with h1 | ⟨y, hy, he⟩
    · by_cases e : x.toNat = k
      · exact .inr ⟨x, by simp, e⟩
      · rw [List.getElem?_set_ne e] at h1; exact .inl h1
    · exact .inr ⟨y, by simp [hy], he⟩
theorem set_true_self {R : List Bool} {k : Nat} (h : R[k]? = some true) : R.set k true = R := by
  obtain ⟨h1, h2⟩ := List.getElem?_eq_some_iff.1 h
  rw [← h2]; exact List.set_getElem_self h1
def ClosedR (ls : List LinkT) (R : List Bool) : Prop := ∀ l ∈ ls, R.getD l.A.toNat false = R.getD l.B.toNat false
theorem connectedR_any {Γ : Gho} {S : List Res} {w : World} {u : Value} {H : HwT} [hh : HwR Γ u H] (hcnt : countsB H = true) (hcr : coresRB H = true) (hrr : regionsRB H = true) (hw : Wd Γ S w) : Calls Tryz.prog 54 #[u] w fun e w' => e = .returned (.bool (connB H)) ∧ Wd Γ S w' := by
  obtain ⟨l0, l1, l2, l3, l4, l5⟩ := counts_le hcnt
  obtain ⟨hNd, hLk⟩ := nodes_in hcr hrr
  obtain ⟨a1, n1, c1, a2, n2, c2, a3, n3, c3, a4, n4, c4, a5, n5, c5, cs, rfl, hcs, hok, hsz, r1, r2, r3, r4, r5⟩ := hh.h
  obtain ⟨hn1, hm1, hx1⟩ := rep_facts r1
  obtain ⟨hn3, hm3, hx3⟩ := rep_facts r3
  simp only [List.length_map] at hn1 hn3
  obtain ⟨x0, hx0⟩ := get_lt (l := H.Cores) (k := 0) (by omega)
  have hhead : (usedN H).headD 0 = x0.Node := by
    refine head_used ?_
    unfold usedN
    rw [List.getElem?_append_left (by simp; omega), List.getElem?_append_left (by simp; omega), List.getElem?_map, hx0]; rfl
  have hs0 : 0 ≤ x0.Node ∧ x0.Node < 64 := hNd x0.Node (by unfold usedN; simp only [List.mem_append]; exact .inl (.inl (List.mem_map_of_mem (List.mem_of_getElem? hx0))))
  obtain ⟨hs00, hs01⟩ := hs0
  have hst : Known H.Links x0.Node ((List.replicate 64 false).set x0.Node.toNat true) := known_start (by omega)
  refine calls_of_W Tryz.func54 rfl rfl ?_
  repeat (first | refine byW ?_ | (refine byV ?_; intro w hw))
  refine lBox ?_
  intro b1 w hw
  repeat (first | refine byW ?_ | (refine byV ?_; intro w hw))
  refine lAlloc ?_
  intro b3 w hw
  have hw : Wd Γ (.blk b3 (.cells ((List.replicate 64 false).map Value.bool).toArray 128) :: .blk b1 (hwC H a1 n1 c1 a2 n2 c2 a3 n3 c3 a4 n4 c4 a5 n5 c5) :: S) w := hw
  repeat (first | refine byW ?_ | (refine byV ?_; intro w hw))
  refine lStore (o := 0 + x0.Node.toNat * 1) (ho := by simp; omega) ?_
  intro w hw
  have hw : Wd Γ (.blk b3 (.cells (putCells ((List.replicate 64 false).map Value.bool).toArray (0 + x0.Node.toNat * 1) [.bool true]) 128) :: .blk b1 (hwC H a1 n1 c1 a2 n2 c2 a3 n3 c3 a4 n4 c4 a5 n5 c5) :: S) w := hw
  rw [putBool (by simp; omega)] at hw
  repeat (first | refine byW ?_ | (refine byV ?_; intro w hw))
  refine W_loop (fun μ ρ w => ∃ (t : Nat) (R : List Bool), μ + t = 64 ∧ Known H.Links x0.Node R ∧ R[x0.Node.toNat]? = some true ∧ (ClosedR H.Links R ∨ R.count false + t ≤ 63) ∧ Has ρ [(1, .pointer (some ⟨b1, 0, none⟩)), (3, .pointer (some ⟨b3, 0, none⟩)), (4, .int .i64 t)] ∧ Wd Γ (.blk b3 (.cells (R.map Value.bool).toArray 128) :: .blk b1 (hwC H a1 n1 c1 a2 n2 c2 a3 n3 c3 a4 n4 c4 a5 n5 c5) :: S) w) 64 ⟨0, _, by omega, hst, by rw [List.getElem?_set_self (by simp; omega)], .inr (by
    have := count_set_lt (R := List.replicate 64 false) (k := x0.Node.toNat) (by rw [List.getElem?_replicate, if_pos (by omega)])
    rw [List.count_replicate_self] at this; omega), ⟨rfl, rfl, rfl, trivial⟩, hw⟩ ?_
  clear hw hst
  rintro μ ρ w ⟨t, R, ht, hkn, hR0, hcl, hρ, hw⟩
  rw [hρ.eq]
  clear hρ
  repeat (first | refine byW ?_ | (refine byV ?_; intro w hw))
  refine W_cond rfl (fun h => ?_) (fun h => ?_)
  · have ht64 : t < 64 := by have := of_decide_eq_true h; omega
    clear h
    repeat (first | refine byW ?_ | (refine byV ?_; intro w hw))
    refine W_loop (fun μ2 ρ w => ∃ (k : Nat) (R2 : List Bool), μ2 + k = n3 ∧ Known H.Links x0.Node R2 ∧ R2[x0.Node.toNat]? = some true ∧ ((R2 = R ∧ ∀ (i : Nat) (l : LinkT), i < k → H.Links[i]? = some l → R.getD l.A.toNat false = R.getD l.B.toNat false) ∨ (¬ ClosedR H.Links R ∧ R2.count false + 1 ≤ R.count false)) ∧ Has ρ [(1, .pointer (some ⟨b1, 0, none⟩)), (3, .pointer (some ⟨b3, 0, none⟩)), (4, .int .i64 t), (5, .int .i64 k)] ∧ Wd Γ (.blk b3 (.cells (R2.map Value.bool).toArray 128) :: .blk b1 (hwC H a1 n1 c1 a2 n2 c2 a3 n3 c3 a4 n4 c4 a5 n5 c5) :: S) w) n3 ⟨0, R, by omega, hkn, hR0, .inl ⟨rfl, fun i l h => by omega⟩, ⟨rfl, rfl, rfl, rfl, trivial⟩, hw⟩ ?_
    clear hw hR0 hkn
    rintro μ2 ρ w ⟨k, R2, hk, hkn, hR0, hor, hρ, hw⟩
    rw [hρ.eq]
    clear hρ
    have hRl := hkn.len
    repeat (first | refine byW ?_ | (refine byV ?_; intro w hw))
    refine W_cond rfl (fun h2 => ?_) (fun h2 => ?_)
    · have hkn3 : k < n3 := by have := of_decide_eq_true h2; omega
      clear h2
      obtain ⟨x, hx⟩ := get_lt (l := H.Links) (k := k) (by omega)
      obtain ⟨hA0, hA1, hB0, hB1⟩ := hLk x (List.mem_of_getElem? hx)
      obtain ⟨ba, hba⟩ := get_lt (l := R2) (k := x.A.toNat) (by omega)
      obtain ⟨bb, hbb⟩ := get_lt (l := R2) (k := x.B.toNat) (by omega)
      have hxm := List.mem_of_getElem? hx
      have ga : R2.getD x.A.toNat false = ba := by rw [List.getD_eq_getElem?_getD, hba]; rfl
      have gb : R2.getD x.B.toNat false = bb := by rw [List.getD_eq_getElem?_getD, hbb]; rfl
      repeat (first | refine byW ?_ | (refine byV ?_; intro w hw))
      refine lAlloc ?_
      intro b6 w hw
      refine lStore ?_
      intro w hw
      have hw : Wd Γ (.blk b6 (.cells (enc x).toArray 56) :: .blk b3 (.cells (R2.map Value.bool).toArray 128) :: .blk b1 (hwC H a1 n1 c1 a2 n2 c2 a3 n3 c3 a4 n4 c4 a5 n5 c5) :: S) w := hw
      repeat (first | refine byW ?_ | (refine byV ?_; intro w hw))
      refine lY (v := .bool ba) ?_ (hy := y_l1b (i := 1) hw rfl rfl (getBool hba))
      repeat (first | refine byW ?_ | (refine byV ?_; intro w hw))
      refine lG (v := .bool bb) ?_ (hv := fun hc => y_l1b (i := 1) hw (gvT hc rfl) rfl (getBool hbb))
      repeat (first | refine byW ?_ | (refine byV ?_; intro w hw))
      refine W_cond rfl (fun h3 => ?_) (fun h3 => ?_)
      · have h3 : (ba || bb) = true := h3
        repeat (first | refine byW ?_ | (refine byV ?_; intro w hw))
        refine lStore (i := 1) (o := 0 + x.A.toNat * 1) (ho := by simp; omega) ?_
        intro w hw
        have hw : Wd Γ (.blk b6 (.cells (enc x).toArray 56) :: .blk b3 (.cells (putCells (R2.map Value.bool).toArray (0 + x.A.toNat * 1) [.bool true]) 128) :: .blk b1 (hwC H a1 n1 c1 a2 n2 c2 a3 n3 c3 a4 n4 c4 a5 n5 c5) :: S) w := hw
        rw [putBool (by omega)] at hw
        repeat (first | refine byW ?_ | (refine byV ?_; intro w hw))
        refine lStore (i := 1) (o := 0 + x.B.toNat * 1) (ho := by simp; omega) ?_
        intro w hw
        have hw : Wd Γ (.blk b6 (.cells (enc x).toArray 56) :: .blk b3 (.cells (putCells ((R2.set x.A.toNat true).map Value.bool).toArray (0 + x.B.toNat * 1) [.bool true]) 128) :: .blk b1 (hwC H a1 n1 c1 a2 n2 c2 a3 n3 c3 a4 n4 c4 a5 n5 c5) :: S) w := hw
        rw [putBool (by simp; omega)] at hw
        have hRA : Reach H.Links x0.Node x.A ∧ Reach H.Links x0.Node x.B := by
          cases ba with
          | true =>
            obtain ⟨n, hn, hn0, hr⟩ := hkn.ok _ hba
            have : n = x.A := by omega
            subst this
            exact ⟨hr, .ab hxm hr⟩
          | false =>
            have : bb = true := by simpa using h3
            subst this
            obtain ⟨n, hn, hn0, hr⟩ := hkn.ok _ hbb
            have : n = x.B := by omega
            subst this
            exact ⟨.ba hxm hr, hr⟩
        have hS0 : ((R2.set x.A.toNat true).set x.B.toNat true)[x0.Node.toNat]? = some true := by
          rw [List.getElem?_set, List.getElem?_set]
          split
          · simp; omega
          · split
            · simp; omega
            · exact hR0
        have hne : ba = bb ∧ (R2.set x.A.toNat true).set x.B.toNat true = R2 ∨ ba ≠ bb ∧ ((R2.set x.A.toNat true).set x.B.toNat true).count false + 1 ≤ R2.count false := by
          cases ba with
          | true =>
            rw [set_true_self hba]
            cases bb with
            | true => exact .inl ⟨rfl, set_true_self hbb⟩
            | false => exact .inr ⟨by simp, count_set_lt hbb⟩
          | false =>
            have : bb = true := by simpa using h3
            subst this
            refine .inr ⟨by simp, ?_⟩
            have h5 := count_set_lt hba
            have h6 := count_set_le (R := R2.set x.A.toNat true) (k := x.B.toNat)
            omega
        have hcnt2 : ((R2.set x.A.toNat true).set x.B.toNat true).count false ≤ R2.count false := Nat.le_trans count_set_le count_set_le
        repeat (first | refine byW ?_ | (refine byV ?_; intro w hw))
        refine ⟨μ2 - 1, by omega, k + 1, _, by omega, (hkn.set hA0 hRA.1).set hB0 hRA.2, hS0, ?_, ⟨rfl, rfl, rfl, rfl, trivial⟩, hw.drop⟩
        rcases hor with ⟨h6, h7⟩ | ⟨h6, h7⟩
        · rcases hne with ⟨h8, h9⟩ | ⟨h8, h9⟩
          · refine .inl ⟨by rw [h9]; exact h6, fun i l hi hl => ?_⟩
            by_cases e : i = k
            · subst e; rw [hx] at hl; cases hl
              rw [← h6, ga, gb, h8]
            · exact h7 i l (by omega) hl
          · refine .inr ⟨fun hC => h8 ?_, by rw [← h6]; exact h9⟩
            rw [← ga, ← gb, h6]; exact hC x hxm
        · exact .inr ⟨h6, by omega⟩
      · have h3 : (ba || bb) = false := h3
        have hab : ba = bb := by cases ba <;> cases bb <;> simp_all
        repeat (first | refine byW ?_ | (refine byV ?_; intro w hw))
        refine ⟨μ2 - 1, by omega, k + 1, R2, by omega, hkn, hR0, ?_, ⟨rfl, rfl, rfl, rfl, trivial⟩, hw.drop⟩
        rcases hor with ⟨h6, h7⟩ | h6
        · refine .inl ⟨h6, fun i l hi hl => ?_⟩
          by_cases e : i = k
          · subst e; rw [hx] at hl; cases hl
            rw [← h6, ga, gb, hab]
          · exact h7 i l (by omega) hl
        · exact .inr h6
    · have hkn3 : ¬ k < n3 := by have := of_decide_eq_false h2; omega
      repeat (first | refine byW ?_ | (refine byV ?_; intro w hw))
      refine ⟨μ - 1, by omega, t + 1, R2, by omega, hkn, hR0, ?_, ⟨rfl, rfl, rfl, trivial⟩, hw⟩
      rcases hor with ⟨h6, h7⟩ | ⟨h6, h7⟩
      · left
        rw [h6]
        intro l hl
        obtain ⟨i, hi⟩ := List.getElem?_of_mem hl
        exact h7 i l (by have := (List.getElem?_eq_some_iff.1 hi).1; omega) hi
      · rcases hcl with h8 | h8
        · exact absurd h8 h6
        · exact .inr (by omega)
  · have ht64 : ¬ t < 64 := by have := of_decide_eq_false h; omega
    have hC : ClosedR H.Links R := by
      rcases hcl with h8 | h8
      · exact h8
      · omega
    clear h hcl
    have hRl := hkn.len
    have hrq : ∀ n : Int, 0 ≤ n ∧ n < 64 → (R.getD n.toNat false = true ↔ Reach H.Links x0.Node n) := fun n hn => known_iff hkn hR0 hs00 hLk hC hn
    repeat (first | refine byW ?_ | (refine byV ?_; intro w hw))
    refine lCall ((Used_any (H := H) (s := H.Name) r1.rdS r4.rdS r5.rdS hNd hw).mono fun e w hq => ?_)
    clear hw
    obtain ⟨rfl, hw⟩ := hq
    refine ⟨_, rfl, ?_⟩
    have hUl : (markN R64 (usedN H)).length = 64 := by rw [markN_len]; simp
    have hUt : ∀ k : Nat, (markN R64 (usedN H))[k]? = some true → ∃ n ∈ usedN H, n.toNat = k := fun k hk => by
      rcases mark_true _ _ _ hk with h1 | h1
      · rw [List.getElem?_replicate] at h1; split at h1 <;> simp at h1
      · exact h1
    have hUf : ∀ k : Nat, (markN R64 (usedN H))[k]? = some false → ∀ n ∈ usedN H, n.toNat ≠ k := fun k hk => (markN_get _ _ _ hk).2
    generalize markN R64 (usedN H) = U at *
    repeat (first | refine byW ?_ | (refine byV ?_; intro w hw))
    refine lAlloc ?_
    intro b7 w hw
    refine lStore (vs := U.map Value.bool) ?_ (hl := by simp [hUl]) (h1 := by simp [Value.oneCell']) (ho := by simp) (hv := by simp [Value.cells])
    intro w hw
    have hw : Wd Γ (.blk b7 (.cells (putCells ((List.replicate 64 false).map Value.bool).toArray 0 (U.map Value.bool)) 128) :: .blk b3 (.cells (R.map Value.bool).toArray 128) :: .blk b1 (hwC H a1 n1 c1 a2 n2 c2 a3 n3 c3 a4 n4 c4 a5 n5 c5) :: S) w := hw
    rw [show putCells ((List.replicate 64 false).map Value.bool).toArray 0 (U.map Value.bool) = (U.map Value.bool).toArray from by unfold putCells; simp [hUl]] at hw
    repeat (first | refine byW ?_ | (refine byV ?_; intro w hw))
    refine W_loop (fun μ ρ w => ∃ (i : Nat), μ + i = 64 ∧ (∀ j : Nat, j < i → U[j]? = some true → R[j]? = some true) ∧ Has ρ [(3, .pointer (some ⟨b3, 0, none⟩)), (7, .pointer (some ⟨b7, 0, none⟩)), (8, .int .i64 i)] ∧ Wd Γ (.blk b7 (.cells (U.map Value.bool).toArray 128) :: .blk b3 (.cells (R.map Value.bool).toArray 128) :: .blk b1 (hwC H a1 n1 c1 a2 n2 c2 a3 n3 c3 a4 n4 c4 a5 n5 c5) :: S) w) 64 ⟨0, by omega, fun j h => by omega, ⟨rfl, rfl, rfl, trivial⟩, hw⟩ ?_
    clear hw
    rintro μ ρ w ⟨i, hi, hall, hρ, hw⟩
    rw [hρ.eq]
    clear hρ
    repeat (first | refine byW ?_ | (refine byV ?_; intro w hw))
    refine W_cond rfl (fun h => ?_) (fun h => ?_)
    · have hin : i < 64 := by have := of_decide_eq_true h; omega
      clear h
      obtain ⟨bu, hbu⟩ := get_lt (l := U) (k := i) (by omega)
      obtain ⟨br, hbr⟩ := get_lt (l := R) (k := i) (by omega)
      repeat (first | refine byW ?_ | (refine byV ?_; intro w hw))
      refine lY (v := .bool bu) ?_ (hy := y_l1b (i := 0) hw rfl rfl (getBool hbu))
      repeat (first | refine byW ?_ | (refine byV ?_; intro w hw))
      refine lG (v := .bool br) ?_ (hv := fun hc => y_l1b (i := 1) hw (gvT hc rfl) rfl (getBool hbr))
      repeat (first | refine byW ?_ | (refine byV ?_; intro w hw))
      refine W_cond rfl (fun h3 => ?_) (fun h3 => ?_)
      · have h3 : (bu && !br) = true := h3
        simp only [Bool.and_eq_true, Bool.not_eq_true'] at h3
        obtain ⟨rfl, rfl⟩ := h3
        repeat (first | refine byW ?_ | (refine byV ?_; intro w hw))
        refine ⟨_, rfl, ret_b rfl ?_, hw.ds [0, 0, 0]⟩
        obtain ⟨n, hn, hni⟩ := hUt i hbu
        refine (decP_f fun hP => ?_).symm
        have h5 := hP n hn
        rw [hhead] at h5
        have h6 := (hrq n (hNd n hn)).2 h5
        rw [hni, List.getD_eq_getElem?_getD, hbr] at h6
        cases h6
      · have h3 : (bu && !br) = false := h3
        repeat (first | refine byW ?_ | (refine byV ?_; intro w hw))
        refine ⟨μ - 1, by omega, i + 1, by omega, fun j hj hu => ?_, ⟨rfl, rfl, rfl, trivial⟩, hw⟩
        by_cases e : j = i
        · subst e; rw [hbu] at hu; cases hu
          cases br with
          | true => exact hbr
          | false => simp at h3
        · exact hall j (by omega) hu
    · have hin : ¬ i < 64 := by have := of_decide_eq_false h; omega
      repeat (first | refine byW ?_ | (refine byV ?_; intro w hw))
      refine ⟨_, rfl, ret_b rfl ?_, hw.ds [0, 0, 0]⟩
      refine (decP_t fun n hn => ?_).symm
      rw [hhead]
      have hr := hNd n hn
      obtain ⟨bu, hbu⟩ := get_lt (l := U) (k := n.toNat) (by omega)
      cases bu with
      | false => exact absurd rfl (hUf _ hbu n hn)
      | true =>
        refine (hrq n hr).1 ?_
        rw [List.getD_eq_getElem?_getD, hall n.toNat (by omega) hbu]; rfl
end Go.Proofs.YteiijmclobggjaaGreat
end
/- The reference's Validate: what is defined twice (printed by a program). -/
section
open Go Mk
namespace Go.Proofs.YteiijmclobggjaaGreat
set_option maxHeartbeats 16000000
attribute [local irreducible] Calls
theorem nodup_succ {α : Type} {l : List α} {i : Nat} {x : α} (h : (l.take i).Nodup) (hx : l[i]? = some x) (hn : ∀ j y, j < i → l[j]? = some y → x ≠ y) : (l.take (i + 1)).Nodup := by
  rw [List.take_add_one, hx]
  refine List.nodup_append.2 ⟨h, by simp, fun a ha b hb e => ?_⟩
  have hb : b = x := by simpa using hb
  subst hb
  subst e
  obtain ⟨j, hj, hja⟩ := List.getElem_of_mem ha
  have hji : j < i := by rw [List.length_take] at hj; omega
  refine hn j a hji ?_ rfl
  have h1 : (l.take i)[j]? = some a := by rw [List.getElem?_eq_getElem hj, hja]
  rwa [List.getElem?_take, if_pos hji] at h1
theorem not_nodup {α : Type} {l : List α} {i k : Nat} {x : α} (hk : k < i) (hx : l[i]? = some x) (hy : l[k]? = some x) : ¬ l.Nodup := fun h => by
  obtain ⟨h1, h2⟩ := List.getElem?_eq_some_iff.1 hx
  obtain ⟨h3, h4⟩ := List.getElem?_eq_some_iff.1 hy
  exact List.pairwise_iff_getElem.1 h k i h3 h1 hk (h4.trans h2.symm)
theorem mapG {α β : Type} {f : α → β} {l : List α} {i : Nat} {x : α} (h : l[i]? = some x) : (l.map f)[i]? = some (f x) := by rw [List.getElem?_map, h]; rfl
theorem no_step {α : Type} {l : List α} {x y : α} {k : Nat} (h : ∀ j z, j < k → l[j]? = some z → x ≠ z) (hy : l[k]? = some y) (hxy : ¬ x = y) : ∀ j z, j < k + 1 → l[j]? = some z → x ≠ z := fun j z hj hz => by
  by_cases e : j = k
  · subst e; rw [hy] at hz; cases hz; exact hxy
  · exact h j z (by omega) hz
theorem twice_any {Γ : Gho} {S : List Res} {w : World} {v : Value} (xs : List Int) (hr : RepS Γ v 1 (intRows xs)) (hw : Wd Γ S w) :
    Calls Tryz.prog 78 #[v] w fun e w' => e = .returned (.bool (!decide xs.Nodup)) ∧ Wd Γ S w' := by
  obtain ⟨a, n, c, rfl, hn, hnc, hc⟩ := hr.shape
  rw [show (intRows xs).length = xs.length from List.length_map ..] at hn
  refine calls_of_W Tryz.func78 rfl rfl ?_
  repeat (first | refine byW ?_ | (refine byV ?_; intro w hw))
  refine W_loop (fun μ ρ w => ∃ (i : Nat), μ + i = n ∧ Has ρ [(0, .slice a n c), (3, .int .i64 i)] ∧ (xs.take i).Nodup ∧ Wd Γ S w) n ⟨0, by omega, ⟨rfl, rfl, trivial⟩, by simp, hw⟩ ?_
  clear hw
  rintro μ ρ w ⟨i, hi, hρ, hnd, hw⟩
  rw [hρ.eq]
  repeat (first | refine byW ?_ | (refine byV ?_; intro w hw))
  refine W_cond rfl (fun h => ?_) (fun h => ?_)
  · have hin : i < n := by have := of_decide_eq_true h; omega
    clear h
    obtain ⟨x, hx⟩ := get_lt (l := xs) (k := i) (by omega)
    repeat (first | refine byW ?_ | (refine byV ?_; intro w hw))
    refine W_loop (fun μ ρ w => ∃ (k : Nat), μ + k = i ∧ Has ρ [(0, .slice a n c), (3, .int .i64 i), (4, .int .i64 k)] ∧ (∀ j y, j < k → xs[j]? = some y → x ≠ y) ∧ Wd Γ S w) i ⟨0, by omega, ⟨rfl, rfl, rfl, trivial⟩, fun j y hj => by omega, hw⟩ ?_
    clear hw hρ
    rintro μ2 ρ w ⟨k, hk, hρ, hno, hw⟩
    rw [hρ.eq]
    repeat (first | refine byW ?_ | (refine byV ?_; intro w hw))
    refine W_cond rfl (fun h => ?_) (fun h => ?_)
    · have hki : k < i := by have := of_decide_eq_true h; omega
      clear h
      obtain ⟨y, hy⟩ := get_lt (l := xs) (k := k) (by omega)
      repeat (first | refine byW ?_ | (refine byV ?_; intro w hw))
      refine W_quiet (by kernel_rfl) (by kernel_rfl) hw ?_
      repeat (first | refine Q_nil ?_ | (apply Q_plain; first | (apply Q_go; first | refine qP ?_ | refine qPg ?_) | refine qY ?_) | (apply Q_guarded; first | (apply Q_go; first | refine qPG ?_ | refine qPgG ?_) | refine qG ?_))
      intro w hw
      repeat (first | refine byW ?_ | (refine byV ?_; intro w hw))
      refine W_cond rfl (fun h => ?_) (fun h => ?_)
      · have h : x = y := of_decide_eq_true h
        subst h
        repeat (first | refine byW ?_ | (refine byV ?_; intro w hw))
        exact ⟨_, rfl, ret_b rfl (by rw [decide_eq_false (not_nodup hki hx hy)]; rfl), hw⟩
      · have h : ¬ x = y := of_decide_eq_false h
        repeat (first | refine byW ?_ | (refine byV ?_; intro w hw))
        exact ⟨μ2 - 1, by omega, k + 1, by omega, ⟨rfl, rfl, rfl, trivial⟩, no_step hno hy h, hw⟩
    · have hki : i ≤ k := by have := of_decide_eq_false h; omega
      repeat (first | refine byW ?_ | (refine byV ?_; intro w hw))
      exact ⟨μ - 1, by omega, i + 1, by omega, ⟨rfl, rfl, trivial⟩, nodup_succ hnd hx fun j y hj => hno j y (by omega), hw⟩
  · have hin : n ≤ i := by have := of_decide_eq_false h; omega
    rw [List.take_of_length_le (by omega)] at hnd
    repeat (first | refine byW ?_ | (refine byV ?_; intro w hw))
    exact ⟨_, rfl, ret_b rfl (by rw [decide_eq_true hnd]; rfl), hw⟩
theorem key_iff (x y : LinkT) : (linkKey x = linkKey y) ↔ (x.A = y.A ∧ x.B = y.B ∨ x.A = y.B ∧ x.B = y.A) := by
  unfold linkKey
  rw [Prod.mk.injEq]
  constructor
  · rintro ⟨h1, h2⟩
    split at h1 <;> split at h1 <;> split at h2 <;> split at h2 <;> omega
  · rintro (⟨h1, h2⟩ | ⟨h1, h2⟩)
    · rw [h1, h2]; exact ⟨rfl, rfl⟩
    · rw [h1, h2]
      refine ⟨?_, ?_⟩
      · split <;> split <;> omega
      · split <;> split <;> omega
theorem uniq_no {H : HwT} (h : ¬ (H.Cores.map (·.ID)).Nodup ∨ ¬ (H.Caches.map (·.Name)).Nodup ∨ ¬ (H.Mems.map (·.Name)).Nodup ∨ ¬ (H.Devs.map (·.Name)).Nodup ∨ ¬ (H.Devs.map (·.IRQ)).Nodup ∨ ¬ (H.Links.map linkKey).Nodup) : true = !uniqueB H := by
  unfold uniqueB
  rcases h with h | h | h | h | h | h <;> rw [decide_eq_false h] <;> simp only [Bool.and_false, Bool.false_and, Bool.not_false]

theorem duplicate_any {Γ : Gho} {u : Value} {H : HwT} [hh : HwR Γ u H] {S : List Res} {w : World} (hw : Wd Γ S w) :
    Calls Tryz.prog 51 #[u] w fun e w' => e = .returned (.bool (!uniqueB H)) ∧ Wd Γ S w' := by
  obtain ⟨a1, n1, c1, a2, n2, c2, a3, n3, c3, a4, n4, c4, a5, n5, c5, cs, rfl, hcs, hok, hsz, r1, r2, r3, r4, r5⟩ := hh.h
  obtain ⟨f1, f1', f1''⟩ := rep_facts r1
  obtain ⟨f2, f2', f2''⟩ := rep_facts r2
  obtain ⟨f3, f3', f3''⟩ := rep_facts r3
  obtain ⟨f4, f4', f4''⟩ := rep_facts r4
  obtain ⟨f5, f5', f5''⟩ := rep_facts r5
  simp only [List.length_map] at f1 f2 f3 f4 f5
  have hcl : cs.length = H.Caches.length := by rw [← hcs, List.length_map]
  refine calls_of_W Tryz.func51 rfl rfl ?_
  repeat (first | refine byW ?_ | (refine byV ?_; intro w hw))
  refine lBox ?_
  intro b1 w hw
  have hw : Wd Γ (.blk b1 (hwC H a1 n1 c1 a2 n2 c2 a3 n3 c3 a4 n4 c4 a5 n5 c5) :: S) w := hw
  repeat (first | refine byW ?_ | (refine byV ?_; intro w hw))
  refine W_loop (fun μ ρ w => ∃ (i : Nat), μ + i = n1 ∧ Has ρ [(1, .pointer (some ⟨b1, 0, none⟩)), (3, .int .i64 i)] ∧ (((H.Cores.map (·.ID)).take i).Nodup) ∧ Wd Γ (.blk b1 (hwC H a1 n1 c1 a2 n2 c2 a3 n3 c3 a4 n4 c4 a5 n5 c5) :: S) w) n1 ⟨0, by omega, ⟨rfl, rfl, trivial⟩, by simp, hw⟩ ?_
  clear hw
  rintro μ ρ w ⟨i, hi, hρ, hnd0, hw⟩
  rw [hρ.eq]
  repeat (first | refine byW ?_ | (refine byV ?_; intro w hw))
  refine W_cond rfl (fun h => ?_) (fun h => ?_)
  · have hin : i < n1 := by have := of_decide_eq_true h; omega
    clear h
    obtain ⟨x, hx⟩ := get_lt (l := H.Cores) (k := i) (by omega)
    repeat (first | refine byW ?_ | (refine byV ?_; intro w hw))
    refine W_loop (fun μ ρ w => ∃ (k : Nat), μ + k = i ∧ Has ρ [(1, .pointer (some ⟨b1, 0, none⟩)), (3, .int .i64 i), (4, .int .i64 k)] ∧ ((∀ j y, j < k → (H.Cores.map (·.ID))[j]? = some y → ((·.ID)) x ≠ y)) ∧ Wd Γ (.blk b1 (hwC H a1 n1 c1 a2 n2 c2 a3 n3 c3 a4 n4 c4 a5 n5 c5) :: S) w) i ⟨0, by omega, ⟨rfl, rfl, rfl, trivial⟩, fun j y hj => by omega, hw⟩ ?_
    clear hw hρ
    rintro μ2 ρ w ⟨k, hk, hρ, hno0, hw⟩
    rw [hρ.eq]
    repeat (first | refine byW ?_ | (refine byV ?_; intro w hw))
    refine W_cond rfl (fun h => ?_) (fun h => ?_)
    · have hki : k < i := by have := of_decide_eq_true h; omega
      clear h
      obtain ⟨y, hy⟩ := get_lt (l := H.Cores) (k := k) (by omega)
      repeat (first | refine byW ?_ | (refine byV ?_; intro w hw))
      refine W_quiet (by kernel_rfl) (by kernel_rfl) hw ?_
      repeat (first | refine Q_nil ?_ | (apply Q_plain; first | (apply Q_go; first | refine qP ?_ | refine qPg ?_) | refine qY ?_) | (apply Q_guarded; first | (apply Q_go; first | refine qPG ?_ | refine qPgG ?_) | refine qG ?_))
      intro w hw
      repeat (first | refine byW ?_ | (refine byV ?_; intro w hw))
      refine W_cond rfl (fun h => ?_) (fun h => ?_)
      · have h : x.ID = y.ID := of_decide_eq_true h
        repeat (first | refine byW ?_ | (refine byV ?_; intro w hw))
        exact ⟨_, rfl, ret_b rfl (uniq_no (.inl (not_nodup hki (mapG hx) ((mapG hy).trans (congrArg some h.symm))))), hw.drop⟩
      · have h : ¬ x.ID = y.ID := of_decide_eq_false h
        repeat (first | refine byW ?_ | (refine byV ?_; intro w hw))
        exact ⟨μ2 - 1, by omega, k + 1, by omega, ⟨rfl, rfl, rfl, trivial⟩, no_step hno0 (mapG hy) h, hw⟩
    have hki : i ≤ k := by have := of_decide_eq_false h; omega
    repeat (first | refine byW ?_ | (refine byV ?_; intro w hw))
    exact ⟨μ - 1, by omega, i + 1, by omega, ⟨rfl, rfl, trivial⟩, nodup_succ hnd0 (mapG hx) fun j y hj => hno0 j y (by omega), hw⟩
  have hin : n1 ≤ i := by have := of_decide_eq_false h; omega
  clear h
  rw [List.take_of_length_le (by rw [List.length_map]; omega)] at hnd0
  have hq10 := hnd0
  clear hi hρ hnd0
  repeat (first | refine byW ?_ | (refine byV ?_; intro w hw))
  refine W_loop (fun μ ρ w => ∃ (i : Nat), μ + i = n2 ∧ Has ρ [(1, .pointer (some ⟨b1, 0, none⟩)), (5, .int .i64 i)] ∧ (((H.Caches.map (·.Name)).take i).Nodup) ∧ (∀ c ∈ H.Caches.take i, c.Cores.Nodup) ∧ Wd Γ (.blk b1 (hwC H a1 n1 c1 a2 n2 c2 a3 n3 c3 a4 n4 c4 a5 n5 c5) :: S) w) n2 ⟨0, by omega, ⟨rfl, rfl, trivial⟩, by simp, by simp, hw⟩ ?_
  clear hw
  rintro μ ρ w ⟨i, hi, hρ, hnd0, hcn, hw⟩
  rw [hρ.eq]
  repeat (first | refine byW ?_ | (refine byV ?_; intro w hw))
  refine W_cond rfl (fun h => ?_) (fun h => ?_)
  · have hin : i < n2 := by have := of_decide_eq_true h; omega
    clear h
    obtain ⟨x, hx⟩ := get_lt (l := cs) (k := i) (by omega)
    obtain ⟨gx1, gx2, gx3⟩ := (hok x (List.mem_of_getElem? hx)).facts
    have hxT : H.Caches[i]? = some x.T := by rw [← hcs, List.getElem?_map, hx]; rfl
    repeat (first | refine byW ?_ | (refine byV ?_; intro w hw))
    refine W_loop (fun μ ρ w => ∃ (k : Nat), μ + k = i ∧ Has ρ [(1, .pointer (some ⟨b1, 0, none⟩)), (5, .int .i64 i), (6, .int .i64 k)] ∧ ((∀ j y, j < k → (H.Caches.map (·.Name))[j]? = some y → ((·.Name)) x.T ≠ y)) ∧ Wd Γ (.blk b1 (hwC H a1 n1 c1 a2 n2 c2 a3 n3 c3 a4 n4 c4 a5 n5 c5) :: S) w) i ⟨0, by omega, ⟨rfl, rfl, rfl, trivial⟩, fun j y hj => by omega, hw⟩ ?_
    clear hw hρ
    rintro μ2 ρ w ⟨k, hk, hρ, hno0, hw⟩
    rw [hρ.eq]
    repeat (first | refine byW ?_ | (refine byV ?_; intro w hw))
    refine W_cond rfl (fun h => ?_) (fun h => ?_)
    · have hki : k < i := by have := of_decide_eq_true h; omega
      clear h
      obtain ⟨y, hy⟩ := get_lt (l := cs) (k := k) (by omega)
      have hyT : H.Caches[k]? = some y.T := by rw [← hcs, List.getElem?_map, hy]; rfl
      repeat (first | refine byW ?_ | (refine byV ?_; intro w hw))
      refine W_quiet (by kernel_rfl) (by kernel_rfl) hw ?_
      repeat (first | refine Q_nil ?_ | (apply Q_plain; first | (apply Q_go; first | refine qP ?_ | refine qPg ?_) | refine qY ?_) | (apply Q_guarded; first | (apply Q_go; first | refine qPG ?_ | refine qPgG ?_) | refine qG ?_))
      intro w hw
      repeat (first | refine byW ?_ | (refine byV ?_; intro w hw))
      refine W_cond rfl (fun h => ?_) (fun h => ?_)
      · have h : x.Name = y.Name := of_decide_eq_true h
        repeat (first | refine byW ?_ | (refine byV ?_; intro w hw))
        exact ⟨_, rfl, ret_b rfl (uniq_no (.inr (.inl (not_nodup hki (mapG hxT) ((mapG hyT).trans (congrArg some h.symm)))))), hw.drop⟩
      · have h : ¬ x.Name = y.Name := of_decide_eq_false h
        repeat (first | refine byW ?_ | (refine byV ?_; intro w hw))
        exact ⟨μ2 - 1, by omega, k + 1, by omega, ⟨rfl, rfl, rfl, trivial⟩, no_step hno0 (mapG hyT) h, hw⟩
    have hki : i ≤ k := by have := of_decide_eq_false h; omega
    have hrd : RepS Γ (.slice x.A x.N x.C) 1 (intRows x.Cores) := hok x (List.mem_of_getElem? hx)
    repeat (first | refine byW ?_ | (refine byV ?_; intro w hw))
    refine lCall ?_
    refine (twice_any x.Cores hrd hw).mono ?_
    clear hw
    rintro e w ⟨rfl, hw⟩
    refine ⟨_, rfl, ?_⟩
    repeat (first | refine byW ?_ | (refine byV ?_; intro w hw))
    refine W_cond rfl (fun h2 => ?_) (fun h2 => ?_)
    · have h2 : (!decide x.Cores.Nodup) = true := h2
      have h2 : ¬ x.Cores.Nodup := of_decide_eq_false (notF h2)
      repeat (first | refine byW ?_ | (refine byV ?_; intro w hw))
      refine ⟨_, rfl, ret_b rfl ?_, hw.drop⟩
      unfold uniqueB
      rw [all_no hxT (p := fun c => decide c.Cores.Nodup) (decide_eq_false h2), Bool.false_and]; rfl
    have h2 : (!decide x.Cores.Nodup) = false := h2
    have h2 : x.Cores.Nodup := of_decide_eq_true (notT h2)
    repeat (first | refine byW ?_ | (refine byV ?_; intro w hw))
    refine ⟨μ - 1, by omega, i + 1, by omega, ⟨rfl, rfl, trivial⟩, nodup_succ hnd0 (mapG hxT) fun j y hj => hno0 j y (by omega), fun c hc => ?_, hw⟩
    rw [List.take_add_one, hxT] at hc
    rcases List.mem_append.1 hc with q | q
    · exact hcn c q
    · rw [show c = x.T by simpa using q]; exact h2
  have hin : n2 ≤ i := by have := of_decide_eq_false h; omega
  clear h
  rw [List.take_of_length_le (by rw [List.length_map]; omega)] at hnd0
  rw [List.take_of_length_le (by omega)] at hcn
  have hq20 := hnd0
  clear hi hρ hnd0
  repeat (first | refine byW ?_ | (refine byV ?_; intro w hw))
  refine W_loop (fun μ ρ w => ∃ (i : Nat), μ + i = n4 ∧ Has ρ [(1, .pointer (some ⟨b1, 0, none⟩)), (7, .int .i64 i)] ∧ (((H.Mems.map (·.Name)).take i).Nodup) ∧ Wd Γ (.blk b1 (hwC H a1 n1 c1 a2 n2 c2 a3 n3 c3 a4 n4 c4 a5 n5 c5) :: S) w) n4 ⟨0, by omega, ⟨rfl, rfl, trivial⟩, by simp, hw⟩ ?_
  clear hw
  rintro μ ρ w ⟨i, hi, hρ, hnd0, hw⟩
  rw [hρ.eq]
  repeat (first | refine byW ?_ | (refine byV ?_; intro w hw))
  refine W_cond rfl (fun h => ?_) (fun h => ?_)
  · have hin : i < n4 := by have := of_decide_eq_true h; omega
    clear h
    obtain ⟨x, hx⟩ := get_lt (l := H.Mems) (k := i) (by omega)
    repeat (first | refine byW ?_ | (refine byV ?_; intro w hw))
    refine W_loop (fun μ ρ w => ∃ (k : Nat), μ + k = i ∧ Has ρ [(1, .pointer (some ⟨b1, 0, none⟩)), (7, .int .i64 i), (8, .int .i64 k)] ∧ ((∀ j y, j < k → (H.Mems.map (·.Name))[j]? = some y → ((·.Name)) x ≠ y)) ∧ Wd Γ (.blk b1 (hwC H a1 n1 c1 a2 n2 c2 a3 n3 c3 a4 n4 c4 a5 n5 c5) :: S) w) i ⟨0, by omega, ⟨rfl, rfl, rfl, trivial⟩, fun j y hj => by omega, hw⟩ ?_
    clear hw hρ
    rintro μ2 ρ w ⟨k, hk, hρ, hno0, hw⟩
    rw [hρ.eq]
    repeat (first | refine byW ?_ | (refine byV ?_; intro w hw))
    refine W_cond rfl (fun h => ?_) (fun h => ?_)
    · have hki : k < i := by have := of_decide_eq_true h; omega
      clear h
      obtain ⟨y, hy⟩ := get_lt (l := H.Mems) (k := k) (by omega)
      repeat (first | refine byW ?_ | (refine byV ?_; intro w hw))
      refine W_quiet (by kernel_rfl) (by kernel_rfl) hw ?_
      repeat (first | refine Q_nil ?_ | (apply Q_plain; first | (apply Q_go; first | refine qP ?_ | refine qPg ?_) | refine qY ?_) | (apply Q_guarded; first | (apply Q_go; first | refine qPG ?_ | refine qPgG ?_) | refine qG ?_))
      intro w hw
      repeat (first | refine byW ?_ | (refine byV ?_; intro w hw))
      refine W_cond rfl (fun h => ?_) (fun h => ?_)
      · have h : x.Name = y.Name := of_decide_eq_true h
        repeat (first | refine byW ?_ | (refine byV ?_; intro w hw))
        exact ⟨_, rfl, ret_b rfl (uniq_no (.inr (.inr (.inl (not_nodup hki (mapG hx) ((mapG hy).trans (congrArg some h.symm))))))), hw.drop⟩
      · have h : ¬ x.Name = y.Name := of_decide_eq_false h
        repeat (first | refine byW ?_ | (refine byV ?_; intro w hw))
        exact ⟨μ2 - 1, by omega, k + 1, by omega, ⟨rfl, rfl, rfl, trivial⟩, no_step hno0 (mapG hy) h, hw⟩
    have hki : i ≤ k := by have := of_decide_eq_false h; omega
    repeat (first | refine byW ?_ | (refine byV ?_; intro w hw))
    exact ⟨μ - 1, by omega, i + 1, by omega, ⟨rfl, rfl, trivial⟩, nodup_succ hnd0 (mapG hx) fun j y hj => hno0 j y (by omega), hw⟩
  have hin : n4 ≤ i := by have := of_decide_eq_false h; omega
  clear h
  rw [List.take_of_length_le (by rw [List.length_map]; omega)] at hnd0
  have hq40 := hnd0
  clear hi hρ hnd0
  repeat (first | refine byW ?_ | (refine byV ?_; intro w hw))
  refine W_loop (fun μ ρ w => ∃ (i : Nat), μ + i = n5 ∧ Has ρ [(1, .pointer (some ⟨b1, 0, none⟩)), (9, .int .i64 i)] ∧ (((H.Devs.map (·.Name)).take i).Nodup ∧ ((H.Devs.map (·.IRQ)).take i).Nodup) ∧ Wd Γ (.blk b1 (hwC H a1 n1 c1 a2 n2 c2 a3 n3 c3 a4 n4 c4 a5 n5 c5) :: S) w) n5 ⟨0, by omega, ⟨rfl, rfl, trivial⟩, by simp, hw⟩ ?_
  clear hw
  rintro μ ρ w ⟨i, hi, hρ, ⟨hnd0, hnd1⟩, hw⟩
  rw [hρ.eq]
  repeat (first | refine byW ?_ | (refine byV ?_; intro w hw))
  refine W_cond rfl (fun h => ?_) (fun h => ?_)
  · have hin : i < n5 := by have := of_decide_eq_true h; omega
    clear h
    obtain ⟨x, hx⟩ := get_lt (l := H.Devs) (k := i) (by omega)
    repeat (first | refine byW ?_ | (refine byV ?_; intro w hw))
    refine W_loop (fun μ ρ w => ∃ (k : Nat), μ + k = i ∧ Has ρ [(1, .pointer (some ⟨b1, 0, none⟩)), (9, .int .i64 i), (10, .int .i64 k)] ∧ ((∀ j y, j < k → (H.Devs.map (·.Name))[j]? = some y → ((·.Name)) x ≠ y) ∧ (∀ j y, j < k → (H.Devs.map (·.IRQ))[j]? = some y → ((·.IRQ)) x ≠ y)) ∧ Wd Γ (.blk b1 (hwC H a1 n1 c1 a2 n2 c2 a3 n3 c3 a4 n4 c4 a5 n5 c5) :: S) w) i ⟨0, by omega, ⟨rfl, rfl, rfl, trivial⟩, ⟨fun j y hj => by omega, fun j y hj => by omega⟩, hw⟩ ?_
    clear hw hρ
    rintro μ2 ρ w ⟨k, hk, hρ, ⟨hno0, hno1⟩, hw⟩
    rw [hρ.eq]
    repeat (first | refine byW ?_ | (refine byV ?_; intro w hw))
    refine W_cond rfl (fun h => ?_) (fun h => ?_)
    · have hki : k < i := by have := of_decide_eq_true h; omega
      clear h
      obtain ⟨y, hy⟩ := get_lt (l := H.Devs) (k := k) (by omega)
      repeat (first | refine byW ?_ | (refine byV ?_; intro w hw))
      refine W_quiet (by kernel_rfl) (by kernel_rfl) hw ?_
      repeat (first | refine Q_nil ?_ | (apply Q_plain; first | (apply Q_go; first | refine qP ?_ | refine qPg ?_) | refine qY ?_) | (apply Q_guarded; first | (apply Q_go; first | refine qPG ?_ | refine qPgG ?_) | refine qG ?_))
      intro w hw
      repeat (first | refine byW ?_ | (refine byV ?_; intro w hw))
      refine W_cond rfl (fun h => ?_) (fun h => ?_)
      · have h : (decide (x.Name = y.Name) || decide (x.IRQ = y.IRQ)) = true := h
        rw [Bool.or_eq_true, decide_eq_true_eq, decide_eq_true_eq] at h
        repeat (first | refine byW ?_ | (refine byV ?_; intro w hw))
        refine ⟨_, rfl, ret_b rfl (uniq_no (.inr (.inr (.inr ?_)))), hw.drop⟩
        rcases h with h | h
        · exact .inl (not_nodup hki (mapG hx) ((mapG hy).trans (congrArg some h.symm)))
        · exact .inr (.inl (not_nodup hki (mapG hx) ((mapG hy).trans (congrArg some h.symm))))
      · have h : (decide (x.Name = y.Name) || decide (x.IRQ = y.IRQ)) = false := h
        rw [Bool.or_eq_false_iff, decide_eq_false_iff_not, decide_eq_false_iff_not] at h
        repeat (first | refine byW ?_ | (refine byV ?_; intro w hw))
        exact ⟨μ2 - 1, by omega, k + 1, by omega, ⟨rfl, rfl, rfl, trivial⟩, ⟨no_step hno0 (mapG hy) h.1, no_step hno1 (mapG hy) h.2⟩, hw⟩
    have hki : i ≤ k := by have := of_decide_eq_false h; omega
    repeat (first | refine byW ?_ | (refine byV ?_; intro w hw))
    exact ⟨μ - 1, by omega, i + 1, by omega, ⟨rfl, rfl, trivial⟩, ⟨nodup_succ hnd0 (mapG hx) fun j y hj => hno0 j y (by omega), nodup_succ hnd1 (mapG hx) fun j y hj => hno1 j y (by omega)⟩, hw⟩
  have hin : n5 ≤ i := by have := of_decide_eq_false h; omega
  clear h
  rw [List.take_of_length_le (by rw [List.length_map]; omega)] at hnd0
  rw [List.take_of_length_le (by rw [List.length_map]; omega)] at hnd1
  have hq50 := hnd0
  have hq51 := hnd1
  clear hi hρ hnd0 hnd1
  repeat (first | refine byW ?_ | (refine byV ?_; intro w hw))
  refine W_loop (fun μ ρ w => ∃ (i : Nat), μ + i = n3 ∧ Has ρ [(1, .pointer (some ⟨b1, 0, none⟩)), (11, .int .i64 i)] ∧ (((H.Links.map linkKey).take i).Nodup) ∧ Wd Γ (.blk b1 (hwC H a1 n1 c1 a2 n2 c2 a3 n3 c3 a4 n4 c4 a5 n5 c5) :: S) w) n3 ⟨0, by omega, ⟨rfl, rfl, trivial⟩, by simp, hw⟩ ?_
  clear hw
  rintro μ ρ w ⟨i, hi, hρ, hnd0, hw⟩
  rw [hρ.eq]
  repeat (first | refine byW ?_ | (refine byV ?_; intro w hw))
  refine W_cond rfl (fun h => ?_) (fun h => ?_)
  · have hin : i < n3 := by have := of_decide_eq_true h; omega
    clear h
    obtain ⟨x, hx⟩ := get_lt (l := H.Links) (k := i) (by omega)
    repeat (first | refine byW ?_ | (refine byV ?_; intro w hw))
    refine W_loop (fun μ ρ w => ∃ (k : Nat), μ + k = i ∧ Has ρ [(1, .pointer (some ⟨b1, 0, none⟩)), (11, .int .i64 i), (12, .int .i64 k)] ∧ ((∀ j y, j < k → (H.Links.map linkKey)[j]? = some y → (linkKey) x ≠ y)) ∧ Wd Γ (.blk b1 (hwC H a1 n1 c1 a2 n2 c2 a3 n3 c3 a4 n4 c4 a5 n5 c5) :: S) w) i ⟨0, by omega, ⟨rfl, rfl, rfl, trivial⟩, fun j y hj => by omega, hw⟩ ?_
    clear hw hρ
    rintro μ2 ρ w ⟨k, hk, hρ, hno0, hw⟩
    rw [hρ.eq]
    repeat (first | refine byW ?_ | (refine byV ?_; intro w hw))
    refine W_cond rfl (fun h => ?_) (fun h => ?_)
    · have hki : k < i := by have := of_decide_eq_true h; omega
      clear h
      obtain ⟨y, hy⟩ := get_lt (l := H.Links) (k := k) (by omega)
      repeat (first | refine byW ?_ | (refine byV ?_; intro w hw))
      refine W_mixed [.blk b1 (hwC H a1 n1 c1 a2 n2 c2 a3 n3 c3 a4 n4 c4 a5 n5 c5)] [fun _ => [], fun _ => [], fun _ => S] [[],[],[],[],[],[],[],[],[],[],[0],[1],[0],[1]] [[],[],[],[],[],[],[],[],[],[],[0],[1],[0],[1]] [[13], [14], []] (by have := hw; simpa [List.range, List.range.loop, ML] using this) ?_
      repeat (first | refine mY ?_ | refine mP ?_ | refine mPg ?_)
      refine mAlloc ?_
      refine mAlloc ?_
      refine mStoreAt ?_
      refine mStoreAt ?_
      refine mEnd fun w g hw => ?_
      have hw : Wd Γ (.blk b1 (hwC H a1 n1 c1 a2 n2 c2 a3 n3 c3 a4 n4 c4 a5 n5 c5) :: atP (g 13) _ :: atP (g 14) _ :: (S ++ [])) w := hw
      rw [List.append_nil] at hw
      obtain ⟨b13, hg13, hw⟩ := (Wd.ps [1] hw).openAt
      have hw : Wd Γ (.blk b13 (.cells (enc x).toArray 56) :: .blk b1 (hwC H a1 n1 c1 a2 n2 c2 a3 n3 c3 a4 n4 c4 a5 n5 c5) :: atP (g 14) _ :: S) w := hw
      obtain ⟨b14, hg14, hw⟩ := (Wd.ps [2] hw).openAt
      have hw : Wd Γ (.blk b14 (.cells (enc y).toArray 56) :: .blk b13 (.cells (enc x).toArray 56) :: .blk b1 (hwC H a1 n1 c1 a2 n2 c2 a3 n3 c3 a4 n4 c4 a5 n5 c5) :: S) w := hw
      refine W_has (l := [(1, .pointer (some ⟨b1, 0, none⟩)), (11, .int .i64 i), (12, .int .i64 k), (13, .pointer (some ⟨b13, 0, none⟩)), (14, .pointer (some ⟨b14, 0, none⟩))]) ⟨rfl, rfl, rfl, hg13, hg14, trivial⟩ fun ρ' hρ' => ?_
      clear hg13 hg14
      rw [hρ'.eq]
      clear hρ'
      repeat (first | refine byW ?_ | (refine byV ?_; intro w hw))
      refine W_cond rfl (fun h => ?_) (fun h => ?_)
      · have h : ((decide (x.A = y.A) && decide (x.B = y.B)) || (decide (x.A = y.B) && decide (x.B = y.A))) = true := h
        simp only [Bool.or_eq_true, Bool.and_eq_true, decide_eq_true_eq] at h
        repeat (first | refine byW ?_ | (refine byV ?_; intro w hw))
        exact ⟨_, rfl, ret_b rfl (uniq_no (.inr (.inr (.inr (.inr (.inr (not_nodup hki (mapG hx) ((mapG hy).trans (congrArg some ((key_iff x y).2 h).symm))))))))), hw.ds [0, 0, 0]⟩
      · have h : ((decide (x.A = y.A) && decide (x.B = y.B)) || (decide (x.A = y.B) && decide (x.B = y.A))) = false := h
        have h : ¬ linkKey x = linkKey y := fun q => by
          have q := (key_iff x y).1 q
          have : ((decide (x.A = y.A) && decide (x.B = y.B)) || (decide (x.A = y.B) && decide (x.B = y.A))) = true := by
            simp only [Bool.or_eq_true, Bool.and_eq_true, decide_eq_true_eq]; exact q
          rw [h] at this; cases this
        repeat (first | refine byW ?_ | (refine byV ?_; intro w hw))
        exact ⟨μ2 - 1, by omega, k + 1, by omega, ⟨rfl, rfl, rfl, trivial⟩, no_step hno0 (mapG hy) h, hw.ds [0, 0]⟩
    have hki : i ≤ k := by have := of_decide_eq_false h; omega
    repeat (first | refine byW ?_ | (refine byV ?_; intro w hw))
    exact ⟨μ - 1, by omega, i + 1, by omega, ⟨rfl, rfl, trivial⟩, nodup_succ hnd0 (mapG hx) fun j y hj => hno0 j y (by omega), hw⟩
  have hin : n3 ≤ i := by have := of_decide_eq_false h; omega
  clear h
  rw [List.take_of_length_le (by rw [List.length_map]; omega)] at hnd0
  have hq30 := hnd0
  clear hi hρ hnd0
  repeat (first | refine byW ?_ | (refine byV ?_; intro w hw))
  refine ⟨_, rfl, ret_b rfl ?_, hw.drop⟩
  have hcn' : H.Caches.all (fun c => decide c.Cores.Nodup) = true := List.all_eq_true.2 fun c hc => decide_eq_true (hcn c hc)
  unfold uniqueB
  rw [hcn', decide_eq_true hq10, decide_eq_true hq20, decide_eq_true hq40, decide_eq_true hq50, decide_eq_true hq51, decide_eq_true hq30]
  rfl
end Go.Proofs.YteiijmclobggjaaGreat
end
/- The reference's Validate: nested caches. -/
section
open Go Mk
namespace Go.Proofs.YteiijmclobggjaaGreat
set_option maxHeartbeats 16000000
attribute [local irreducible] Calls
theorem hasR_any {Γ : Gho} {S : List Res} {w : World} {v : Value} {xs : List Int} (hr : RdS Γ S v 1 (intRows xs)) (x : Int) (hw : Wd Γ S w) : Calls Tryz.prog 79 #[v, .int .i64 x] w fun e w' => e = .returned (.bool (memI x xs)) ∧ Wd Γ S w' := by
  obtain ⟨a, n, c, rfl, hn, hnc, hc⟩ := hr.shape
  have hn0 := hn
  rw [show (intRows xs).length = xs.length from List.length_map ..] at hn
  refine calls_of_W Tryz.func79 rfl rfl ?_
  repeat (first | refine byW ?_ | (refine byV ?_; intro w hw))
  refine W_loop (fun μ ρ w => ∃ (k : Nat), μ + k = n ∧ Has ρ [(0, .slice a n c), (1, .int .i64 x), (5, .int .i64 k)] ∧ memI x xs = memI x (xs.drop k) ∧ Wd Γ S w) n ⟨0, by omega, ⟨rfl, rfl, rfl, trivial⟩, rfl, hw⟩ ?_
  clear hw
  rintro μ ρ w ⟨k, hk, hρ, hal, hw⟩
  rw [hρ.eq]
  repeat (first | refine byW ?_ | (refine byV ?_; intro w hw))
  refine W_cond rfl (fun h => ?_) (fun h => ?_)
  · have hkn : k < n := by have := of_decide_eq_true h; omega
    clear h
    obtain ⟨y, hy⟩ := get_lt (l := xs) (k := k) (by omega)
    have hm : memI x (xs.drop k) = (decide (x = y) || memI x (xs.drop (k + 1))) := by unfold memI; rw [dropG hy, List.any_cons]
    rw [hm] at hal
    repeat (first | refine byW ?_ | (refine byV ?_; intro w hw))
    refine W_cond rfl (fun h => ?_) (fun h => ?_)
    · have h : y = x := of_decide_eq_true h
      repeat (first | refine byW ?_ | (refine byV ?_; intro w hw))
      exact ⟨_, rfl, ret_b rfl (by rw [hal, decide_eq_true h.symm]; rfl), hw⟩
    · have h : ¬ y = x := of_decide_eq_false h
      rw [decide_eq_false (fun q => h q.symm), Bool.false_or] at hal
      repeat (first | refine byW ?_ | (refine byV ?_; intro w hw))
      exact ⟨μ - 1, by omega, k + 1, by omega, ⟨rfl, rfl, rfl, trivial⟩, hal, hw⟩
  · have hkn : n ≤ k := by have := of_decide_eq_false h; omega
    have : memI x (xs.drop k) = false := by rw [List.drop_eq_nil_of_le (by omega)]; rfl
    rw [this] at hal
    repeat (first | refine byW ?_ | (refine byV ?_; intro w hw))
    exact ⟨_, rfl, ret_b rfl hal.symm, hw⟩
instance pg_hasR {Γ : Gho} {v : Value} {xs : List Int} [hr : SlC Γ v 1 (intRows xs)] (x : Int) : PG Tryz.prog Γ 79 [v, .int .i64 x] (.bool (memI x xs)) := ⟨fun S w hw => hasR_any hr.h.rdS x hw⟩
def ascP (l : List Int) : Prop := ∀ (i : Nat) (a b : Int), l[i]? = some a → l[i + 1]? = some b → a < b
def NestP (l : List CacheT) : Prop := (∀ c ∈ l, ascP c.Cores) ∧ ∀ (i k : Nat) (a b : CacheT), l[i]? = some a → l[k]? = some b → pairB i k a b = true
theorem nested_any {Γ : Gho} {u : Value} {H : HwT} [hh : HwR Γ u H] {S : List Res} {w : World} (hw : Wd Γ S w) :
    Calls Tryz.prog 52 #[u] w fun e w' => e = .returned (.bool (decP (NestP H.Caches))) ∧ Wd Γ S w' := by
  obtain ⟨a1, n1, c1, a2, n2, c2, a3, n3, c3, a4, n4, c4, a5, n5, c5, cs, rfl, hcs, hok, hsz, r1, r2, r3, r4, r5⟩ := hh.h
  obtain ⟨hn2, hm2, hx2⟩ := rep_facts r2
  simp only [List.length_map] at hn2
  have hget : ∀ (i : Nat) (x : CacheH), cs[i]? = some x → H.Caches[i]? = some x.T := fun i x h => by rw [← hcs]; simp [h]
  refine calls_of_W Tryz.func52 rfl rfl ?_
  repeat (first | refine byW ?_ | (refine byV ?_; intro w hw))
  refine lBox ?_
  intro b1 w hw
  have hw : Wd Γ (.blk b1 (hwC H a1 n1 c1 a2 n2 c2 a3 n3 c3 a4 n4 c4 a5 n5 c5) :: S) w := hw
  repeat (first | refine byW ?_ | (refine byV ?_; intro w hw))
  refine W_loop (fun μ ρ w => ∃ (k : Nat), μ + k = n2 ∧ Has ρ [(1, .pointer (some ⟨b1, 0, none⟩)), (3, .int .i64 k)] ∧ (∀ (i : Nat) (x : CacheH), i < k → cs[i]? = some x → ascP x.Cores) ∧ Wd Γ (.blk b1 (hwC H a1 n1 c1 a2 n2 c2 a3 n3 c3 a4 n4 c4 a5 n5 c5) :: S) w) n2 ⟨0, by omega, ⟨rfl, rfl, trivial⟩, fun i x h => by omega, hw⟩ ?_
  clear hw
  rintro μ ρ w ⟨k, hk, hρ, hall, hw⟩
  rw [hρ.eq]
  repeat (first | refine byW ?_ | (refine byV ?_; intro w hw))
  refine W_cond rfl (fun h => ?_) (fun h => ?_)
  · have hkn : k < n2 := by have := of_decide_eq_true h; omega
    clear h
    obtain ⟨x, hx⟩ := get_lt (l := cs) (k := k) (by omega)
    have hcx := hok x (List.mem_of_getElem? hx)
    obtain ⟨hxn, hxm, hxc⟩ := hcx.facts
    unfold COk at hcx
    repeat (first | refine byW ?_ | (refine byV ?_; intro w hw))
    refine lAlloc ?_
    intro b4 w hw
    refine lStore ?_
    intro w hw
    have hw : Wd Γ (.blk b4 (.cells (cC x).toArray 65) :: .blk b1 (hwC H a1 n1 c1 a2 n2 c2 a3 n3 c3 a4 n4 c4 a5 n5 c5) :: S) w := hw
    repeat (first | refine byW ?_ | (refine byV ?_; intro w hw))
    refine W_loop (fun μ2 ρ w => ∃ (j : Nat), μ2 + j = x.N + 1 ∧ 1 ≤ j ∧ Has ρ [(1, .pointer (some ⟨b1, 0, none⟩)), (3, .int .i64 k), (4, .pointer (some ⟨b4, 0, none⟩)), (5, .int .i64 j)] ∧ (∀ (i : Nat) (a b : Int), i + 1 < j → x.Cores[i]? = some a → x.Cores[i + 1]? = some b → a < b) ∧ Wd Γ (.blk b4 (.cells (cC x).toArray 65) :: .blk b1 (hwC H a1 n1 c1 a2 n2 c2 a3 n3 c3 a4 n4 c4 a5 n5 c5) :: S) w) x.N ⟨1, by omega, by omega, ⟨rfl, rfl, rfl, rfl, trivial⟩, fun i a b h => by omega, hw⟩ ?_
    clear hw hρ
    rintro μ2 ρ w ⟨j, hj, hj1, hρ, hasc, hw⟩
    rw [hρ.eq]
    repeat (first | refine byW ?_ | (refine byV ?_; intro w hw))
    refine W_cond rfl (fun h => ?_) (fun h => ?_)
    · have hjn : j < x.N := by have := of_decide_eq_true h; omega
      clear h
      obtain ⟨i, rfl⟩ : ∃ i, j = i + 1 := ⟨j - 1, by omega⟩
      obtain ⟨b, hb⟩ := get_lt (l := x.Cores) (k := i + 1) (by omega)
      obtain ⟨a, ha⟩ := get_lt (l := x.Cores) (k := i) (by omega)
      have ha' : x.Cores[(((i + 1 : Nat) : Int) - 1).toNat]? = some a := by rw [show (((i + 1 : Nat) : Int) - 1).toNat = i by omega]; exact ha
      repeat (first | refine byW ?_ | (refine byV ?_; intro w hw))
      refine W_quiet (by kernel_rfl) (by kernel_rfl) hw ?_
      repeat (first | refine Q_nil ?_ | (apply Q_plain; first | (apply Q_go; first | refine qP ?_ | refine qPg ?_) | refine qY ?_) | (apply Q_guarded; first | (apply Q_go; first | refine qPG ?_ | refine qPgG ?_) | refine qG ?_))
      intro w hw
      repeat (first | refine byW ?_ | (refine byV ?_; intro w hw))
      refine W_cond rfl (fun h => ?_) (fun h => ?_)
      · have h : b ≤ a := of_decide_eq_true h
        repeat (first | refine byW ?_ | (refine byV ?_; intro w hw))
        refine ⟨_, rfl, ret_b rfl ?_, hw.ds [0, 0]⟩
        refine (decP_f fun hP => ?_).symm
        have := hP.1 x.T (List.mem_of_getElem? (hget k x hx)) i a b ha hb
        omega
      · have h : ¬ b ≤ a := of_decide_eq_false h
        repeat (first | refine byW ?_ | (refine byV ?_; intro w hw))
        refine ⟨μ2 - 1, by omega, i + 1 + 1, by omega, by omega, ⟨rfl, rfl, rfl, rfl, trivial⟩, fun i' a' b' hi' hA hB => ?_, hw⟩
        by_cases e : i' = i
        · subst e; rw [ha] at hA; rw [hb] at hB; cases hA; cases hB; omega
        · exact hasc i' a' b' (by omega) hA hB
    · have hjn : x.N ≤ j := by have := of_decide_eq_false h; omega
      repeat (first | refine byW ?_ | (refine byV ?_; intro w hw))
      refine ⟨μ - 1, by omega, k + 1, by omega, ⟨rfl, rfl, trivial⟩, fun i y hi hy => ?_, hw.drop⟩
      by_cases e : i = k
      · subst e; rw [hx] at hy; cases hy
        exact fun i a b ha hb => hasc i a b (by have := (List.getElem?_eq_some_iff.1 hb).1; omega) ha hb
      · exact hall i y (by omega) hy
  have hkn : n2 ≤ k := by have := of_decide_eq_false h; omega
  have hsort : ∀ (i : Nat) (x : CacheH), cs[i]? = some x → ascP x.Cores := fun i x hx => hall i x (by have := (List.getElem?_eq_some_iff.1 hx).1; omega) hx
  clear h hkn hall hρ hk
  repeat (first | refine byW ?_ | (refine byV ?_; intro w hw))
  refine W_loop (fun μ ρ w => ∃ (k : Nat), μ + k = n2 ∧ Has ρ [(1, .pointer (some ⟨b1, 0, none⟩)), (6, .int .i64 k)] ∧ (∀ (i j : Nat) (a b : CacheH), i < k → cs[i]? = some a → cs[j]? = some b → pairB i j a.T b.T = true) ∧ Wd Γ (.blk b1 (hwC H a1 n1 c1 a2 n2 c2 a3 n3 c3 a4 n4 c4 a5 n5 c5) :: S) w) n2 ⟨0, by omega, ⟨rfl, rfl, trivial⟩, fun i j a b h => by omega, hw⟩ ?_
  clear hw
  rintro μ ρ w ⟨i, hi, hρ, hall, hw⟩
  rw [hρ.eq]
  repeat (first | refine byW ?_ | (refine byV ?_; intro w hw))
  refine W_cond rfl (fun h => ?_) (fun h => ?_)
  · have hin : i < n2 := by have := of_decide_eq_true h; omega
    clear h
    obtain ⟨x, hx⟩ := get_lt (l := cs) (k := i) (by omega)
    have hcx := hok x (List.mem_of_getElem? hx)
    obtain ⟨hxn, hxm, hxc⟩ := hcx.facts
    unfold COk at hcx
    repeat (first | refine byW ?_ | (refine byV ?_; intro w hw))
    refine W_loop (fun μ2 ρ w => ∃ (k : Nat), μ2 + k = n2 ∧ Has ρ [(1, .pointer (some ⟨b1, 0, none⟩)), (6, .int .i64 i), (7, .int .i64 k)] ∧ (∀ (j : Nat) (b : CacheH), j < k → cs[j]? = some b → pairB i j x.T b.T = true) ∧ Wd Γ (.blk b1 (hwC H a1 n1 c1 a2 n2 c2 a3 n3 c3 a4 n4 c4 a5 n5 c5) :: S) w) n2 ⟨0, by omega, ⟨rfl, rfl, rfl, trivial⟩, fun j b h => by omega, hw⟩ ?_
    clear hw hρ
    rintro μ2 ρ w ⟨k, hk, hρ, hall2, hw⟩
    rw [hρ.eq]
    repeat (first | refine byW ?_ | (refine byV ?_; intro w hw))
    refine W_cond rfl (fun h2 => ?_) (fun h2 => ?_)
    · have hkn : k < n2 := by have := of_decide_eq_true h2; omega
      clear h2
      obtain ⟨y, hy⟩ := get_lt (l := cs) (k := k) (by omega)
      have hcy := hok y (List.mem_of_getElem? hy)
      obtain ⟨hyn, hym, hyc⟩ := hcy.facts
      haveI : SlC Γ (.slice y.A y.N y.C) 1 (intRows y.Cores) := ⟨hcy⟩
      repeat (first | refine byW ?_ | (refine byV ?_; intro w hw))
      refine W_mixed [.blk b1 (hwC H a1 n1 c1 a2 n2 c2 a3 n3 c3 a4 n4 c4 a5 n5 c5)] [fun _ => [], fun _ => [], fun _ => S] [[],[],[],[],[],[],[],[],[],[],[0],[1],[0],[1]] [[],[],[],[],[],[],[],[],[],[],[0],[1],[0],[1]] [[8], [9], []] (by have := hw; simpa [List.range, List.range.loop, ML] using this) ?_
      repeat (first | refine mY ?_ | refine mP ?_ | refine mPg ?_)
      refine mAlloc ?_
      refine mAlloc ?_
      refine mStoreAt ?_
      refine mStoreAt ?_
      refine mEnd fun w g hw => ?_
      have hw : Wd Γ (.blk b1 (hwC H a1 n1 c1 a2 n2 c2 a3 n3 c3 a4 n4 c4 a5 n5 c5) :: atP (g 8) _ :: atP (g 9) _ :: (S ++ [])) w := hw
      rw [List.append_nil] at hw
      obtain ⟨b8, hg8, hw⟩ := (Wd.ps [1] hw).openAt
      have hw : Wd Γ (.blk b8 (.cells (cC x).toArray 65) :: .blk b1 (hwC H a1 n1 c1 a2 n2 c2 a3 n3 c3 a4 n4 c4 a5 n5 c5) :: atP (g 9) _ :: S) w := hw
      obtain ⟨b9, hg9, hw⟩ := (Wd.ps [2] hw).openAt
      have hw : Wd Γ (.blk b9 (.cells (cC y).toArray 65) :: .blk b8 (.cells (cC x).toArray 65) :: .blk b1 (hwC H a1 n1 c1 a2 n2 c2 a3 n3 c3 a4 n4 c4 a5 n5 c5) :: S) w := hw
      refine W_has (l := [(1, .pointer (some ⟨b1, 0, none⟩)), (6, .int .i64 i), (7, .int .i64 k), (8, .pointer (some ⟨b8, 0, none⟩)), (9, .pointer (some ⟨b9, 0, none⟩))]) ⟨rfl, rfl, rfl, hg8, hg9, trivial⟩ fun ρ' hρ' => ?_
      clear hg8 hg9
      rw [hρ'.eq]
      clear hρ'
      repeat (first | refine byW ?_ | (refine byV ?_; intro w hw))
      refine W_cond rfl (fun h3 => ?_) (fun h3 => ?_)
      · have hp : pairB i k x.T y.T = true := by
          have h3 : (decide ((i : Int) = k) || decide (y.Level < x.Level)) = true := h3
          unfold pairB CacheH.T
          rw [show decide (i = k) = decide ((i : Int) = k) from decide_eq_decide.2 (by omega)]
          rw [h3]; rfl
        repeat (first | refine byW ?_ | (refine byV ?_; intro w hw))
        exact ⟨μ2 - 1, by omega, k + 1, by omega, ⟨rfl, rfl, rfl, trivial⟩, allI_step (p := fun j b => pairB i j x.T b.T) hall2 hy hp, hw.ds [0, 0]⟩
      · have h3 : (decide ((i : Int) = k) || decide (y.Level < x.Level)) = false := h3
        repeat (first | refine byW ?_ | (refine byV ?_; intro w hw))
        refine W_loop (fun μ3 ρ w => ∃ (j : Nat), μ3 + j = x.N ∧ Has ρ [(1, .pointer (some ⟨b1, 0, none⟩)), (6, .int .i64 i), (7, .int .i64 k), (8, .pointer (some ⟨b8, 0, none⟩)), (9, .pointer (some ⟨b9, 0, none⟩)), (10, .int .i64 (sharedN (x.Cores.take j) y.Cores)), (11, .int .i64 j)] ∧ Wd Γ (.blk b9 (.cells (cC y).toArray 65) :: .blk b8 (.cells (cC x).toArray 65) :: .blk b1 (hwC H a1 n1 c1 a2 n2 c2 a3 n3 c3 a4 n4 c4 a5 n5 c5) :: S) w) x.N ⟨0, by omega, ⟨rfl, rfl, rfl, rfl, rfl, rfl, rfl, trivial⟩, hw⟩ ?_
        clear hw
        rintro μ3 ρ w ⟨j, hj, hρ, hw⟩
        rw [hρ.eq]
        have hle : sharedN (x.Cores.take j) y.Cores ≤ j := Nat.le_trans (List.length_filter_le _ _) (by simp; omega)
        repeat (first | refine byW ?_ | (refine byV ?_; intro w hw))
        refine W_cond rfl (fun h4 => ?_) (fun h4 => ?_)
        · have hjn : j < x.N := by have := of_decide_eq_true h4; omega
          obtain ⟨v, hv⟩ := get_lt (l := x.Cores) (k := j) (by omega)
          have hst : sharedN (x.Cores.take (j + 1)) y.Cores = sharedN (x.Cores.take j) y.Cores + (if memI v y.Cores = true then 1 else 0) := by
            unfold sharedN; rw [take_succ_of hv, List.filter_append, List.length_append]
            congr 1
            by_cases e : memI v y.Cores = true <;> simp [e]
          repeat (first | refine byW ?_ | (refine byV ?_; intro w hw))
          refine W_quiet (by kernel_rfl) (by kernel_rfl) hw ?_
          repeat (first | refine Q_nil ?_ | (apply Q_plain; first | (apply Q_go; first | refine qP ?_ | refine qPg ?_) | refine qY ?_) | (apply Q_guarded; first | (apply Q_go; first | refine qPG ?_ | refine qPgG ?_) | refine qG ?_))
          intro w hw
          repeat (first | refine byW ?_ | (refine byV ?_; intro w hw))
          refine W_cond rfl (fun h5 => ?_) (fun h5 => ?_)
          · rw [if_pos h5] at hst
            repeat (first | refine byW ?_ | (refine byV ?_; intro w hw))
            exact ⟨μ3 - 1, by omega, j + 1, by omega, ⟨rfl, rfl, rfl, rfl, rfl, by rw [hst]; rfl, rfl, trivial⟩, hw⟩
          · rw [if_neg (by rw [h5]; simp)] at hst
            repeat (first | refine byW ?_ | (refine byV ?_; intro w hw))
            exact ⟨μ3 - 1, by omega, j + 1, by omega, ⟨rfl, rfl, rfl, rfl, rfl, by rw [hst]; rfl, rfl, trivial⟩, hw⟩
        · have hjn : ¬ j < x.N := by have := of_decide_eq_false h4; omega
          rw [List.take_of_length_le (by omega)]
          repeat (first | refine byW ?_ | (refine byV ?_; intro w hw))
          have key : pairB i k x.T y.T = !(decide ((0 : Int) < (sharedN x.Cores y.Cores : Nat)) && (decide (x.Level = y.Level) || decide (((sharedN x.Cores y.Cores : Nat) : Int) < x.N))) := by
            unfold pairB CacheH.T
            rw [show decide (i = k) = decide ((i : Int) = k) from decide_eq_decide.2 (by omega), h3]
            rw [show decide (0 < sharedN x.Cores y.Cores) = decide ((0 : Int) < (sharedN x.Cores y.Cores : Nat)) from decide_eq_decide.2 (by omega)]
            rw [show decide (sharedN x.Cores y.Cores < x.Cores.length) = decide (((sharedN x.Cores y.Cores : Nat) : Int) < x.N) from decide_eq_decide.2 (by omega)]
            rfl
          refine W_cond rfl (fun h6 => ?_) (fun h6 => ?_)
          · have hp : pairB i k x.T y.T = false := key.trans (congrArg (fun b => !b) h6)
            repeat (first | refine byW ?_ | (refine byV ?_; intro w hw))
            refine ⟨_, rfl, ret_b rfl ?_, hw.ds [0, 0, 0]⟩
            refine (decP_f fun hP => ?_).symm
            rw [hP.2 i k x.T y.T (hget i x hx) (hget k y hy)] at hp; cases hp
          · have hp : pairB i k x.T y.T = true := key.trans (congrArg (fun b => !b) h6)
            repeat (first | refine byW ?_ | (refine byV ?_; intro w hw))
            exact ⟨μ2 - 1, by omega, k + 1, by omega, ⟨rfl, rfl, rfl, trivial⟩, allI_step (p := fun j b => pairB i j x.T b.T) hall2 hy hp, hw.ds [0, 0]⟩
    · have hkn : n2 ≤ k := by have := of_decide_eq_false h2; omega
      repeat (first | refine byW ?_ | (refine byV ?_; intro w hw))
      refine ⟨μ - 1, by omega, i + 1, by omega, ⟨rfl, rfl, trivial⟩, fun i' j a b h1 ha hb => ?_, hw⟩
      by_cases e : i' = i
      · subst e; rw [hx] at ha; cases ha
        exact hall2 j b (by have := (List.getElem?_eq_some_iff.1 hb).1; omega) hb
      · exact hall i' j a b (by omega) ha hb
  · have hin : n2 ≤ i := by have := of_decide_eq_false h; omega
    repeat (first | refine byW ?_ | (refine byV ?_; intro w hw))
    refine ⟨_, rfl, ret_b rfl ?_, hw.drop⟩
    refine (decP_t ⟨fun c hc => ?_, fun p q a b ha hb => ?_⟩).symm
    · rw [← hcs] at hc
      obtain ⟨x, hx, rfl⟩ := List.mem_map.1 hc
      obtain ⟨q, hq, he⟩ := List.getElem_of_mem hx
      exact hsort q x (by rw [List.getElem?_eq_getElem hq, he])
    · rw [← hcs, List.getElem?_map] at ha hb
      obtain ⟨x, hx, rfl⟩ := Option.map_eq_some_iff.1 ha
      obtain ⟨y, hy, rfl⟩ := Option.map_eq_some_iff.1 hb
      exact hall p q x y (by have := (List.getElem?_eq_some_iff.1 hx).1; omega) hx hy
theorem nest_hier {l : List CacheT} (hn : ∀ c ∈ l, c.Cores.Nodup) : NestP l ↔ HierP l := by
  unfold NestP HierP
  refine and_congr ⟨fun h c hc i a b ha hb => ?_, fun h c hc i a b ha hb => ?_⟩ Iff.rfl
  · exact Int.le_of_lt (h c hc i a b ha hb)
  · have h1 := h c hc i a b ha hb
    have h2 : b ≠ a := fun e => not_nodup (Nat.lt_succ_self i) hb (by rw [e]; exact ha) (hn c hc)
    omega
end Go.Proofs.YteiijmclobggjaaGreat
end
/- The reference's Validate = the program's. -/
section
open Go Mk
namespace Go.Proofs.YteiijmclobggjaaGreat
set_option maxHeartbeats 16000000
attribute [local irreducible] Calls
/-- What is read of a description is in range where it is not signed. -/
class WideH (H : HwT) : Prop where h : MemWide H
instance pg_namesR {Γ : Gho} {u : Value} {H : HwT} [hh : HwR Γ u H] : PG Tryz.prog Γ 48 [u] (.bool (namesB H)) := ⟨fun S w hw => names_any hw⟩
instance pg_rangesR {Γ : Gho} {u : Value} {H : HwT} [hh : HwR Γ u H] : PG Tryz.prog Γ 49 [u] (.bool (coresRB H && regionsRB H)) := ⟨fun S w hw => ranges_any hw⟩
instance pg_duplicateR {Γ : Gho} {u : Value} {H : HwT} [hh : HwR Γ u H] : PG Tryz.prog Γ 51 [u] (.bool (!uniqueB H)) := ⟨fun S w hw => duplicate_any hw⟩
theorem coreAt_neg {l : List CoreT} {id : Int} : decide (coreAt l id < 0) = !(l.any fun x => decide (x.ID = id)) := by
  rw [← coreAt_any, ← decide_not]
  congr 1
  apply propext
  omega
theorem bool_not {b : Bool} (h : (!b) = false) : b = true := by simpa using h
instance pg_RValidate {Γ : Gho} {u : Value} {H : HwT} [hh : HwR Γ u H] [hwd : WideH H] : PG Tryz.prog Γ 25 [u] (.int .i64 (validS H)) := ⟨fun S w hw => by
  have hh' := hh
  obtain ⟨a1, n1, c1, a2, n2, c2, a3, n3, c3, a4, n4, c4, a5, n5, c5, cs, rfl, hcs, hok, hsz, r1, r2, r3, r4, r5⟩ := hh.h
  obtain ⟨hn1, hm1, hx1⟩ := rep_facts r1
  obtain ⟨hn2, hm2, hx2⟩ := rep_facts r2
  obtain ⟨hn3, hm3, hx3⟩ := rep_facts r3
  obtain ⟨hn4, hm4, hx4⟩ := rep_facts r4
  obtain ⟨hn5, hm5, hx5⟩ := rep_facts r5
  simp only [List.length_map] at hn1 hn2 hn3 hn4 hn5
  have hcl : H.Caches.length = cs.length := by rw [← hcs, List.length_map]
  refine calls_of_W Tryz.func25 rfl rfl ?_
  repeat (first | refine byW ?_ | (refine byV ?_; intro w hw))
  refine lBox ?_
  intro b1 w hw
  have hw : Wd Γ (.blk b1 (hwC H a1 n1 c1 a2 n2 c2 a3 n3 c3 a4 n4 c4 a5 n5 c5) :: S) w := hw
  unfold validS
  repeat (first | refine byW ?_ | (refine byV ?_; intro w hw))
  refine W_cond rfl (fun h => ?_) (fun h => ?_)
  · rw [if_pos (by simpa using h)]
    repeat (first | refine byW ?_ | (refine byV ?_; intro w hw))
    exact ⟨_, rfl, rfl, hw.drop⟩
  rw [if_neg (by rw [bool_not h]; simp)]
  clear h
  repeat (first | refine byW ?_ | (refine byV ?_; intro w hw))
  refine W_cond rfl (fun h => ?_) (fun h => ?_)
  · have h : (((((decide ((n1 : Int) = 0) || decide ((n1 : Int) > 32)) || decide ((n2 : Int) > 64)) || decide ((n3 : Int) > 256)) || decide ((n4 : Int) > 64)) || decide ((n5 : Int) > 32)) = true := h
    rw [if_pos (by
      unfold countsB
      simp only [Bool.or_eq_true, decide_eq_true_eq] at h
      rw [Bool.eq_false_iff]
      simp only [ne_eq, Bool.and_eq_true, decide_eq_true_eq]
      omega)]
    repeat (first | refine byW ?_ | (refine byV ?_; intro w hw))
    exact ⟨_, rfl, rfl, hw.drop⟩
  have h : (((((decide ((n1 : Int) = 0) || decide ((n1 : Int) > 32)) || decide ((n2 : Int) > 64)) || decide ((n3 : Int) > 256)) || decide ((n4 : Int) > 64)) || decide ((n5 : Int) > 32)) = false := h
  have hcnt : countsB H = true := by
    unfold countsB
    simp only [Bool.or_eq_false_iff, decide_eq_false_iff_not] at h
    simp only [Bool.and_eq_true, decide_eq_true_eq]
    omega
  rw [if_neg (by rw [hcnt]; simp)]
  clear h
  repeat (first | refine byW ?_ | (refine byV ?_; intro w hw))
  refine W_cond rfl (fun h => ?_) (fun h => ?_)
  · rw [if_pos (notF h)]
    repeat (first | refine byW ?_ | (refine byV ?_; intro w hw))
    exact ⟨_, rfl, rfl, hw.drop⟩
  have h := bool_not h
  rw [if_neg (by rw [h]; simp)]
  rw [Bool.and_eq_true] at h
  obtain ⟨hcr, hrr⟩ := h
  haveI pal : PG Tryz.prog Γ 50 [.agg #[.string H.Name, .slice a1 n1 c1, .slice a2 n2 c2, .slice a3 n3 c3, .slice a4 n4 c4, .slice a5 n5 c5]] (.bool (alignRB H)) := ⟨fun S w hw => by
    have := aligned_any (hh := hh') hw
    rwa [align_ref hwd.h hrr] at this⟩
  haveI pov : PG Tryz.prog Γ 53 [.agg #[.string H.Name, .slice a1 n1 c1, .slice a2 n2 c2, .slice a3 n3 c3, .slice a4 n4 c4, .slice a5 n5 c5]] (.bool (!disjB H)) := ⟨fun S w hw => overlap_any (hh := hh') hcnt hw⟩
  haveI pco : PG Tryz.prog Γ 54 [.agg #[.string H.Name, .slice a1 n1 c1, .slice a2 n2 c2, .slice a3 n3 c3, .slice a4 n4 c4, .slice a5 n5 c5]] (.bool (connB H)) := ⟨fun S w hw => connectedR_any (hh := hh') hcnt hcr hrr hw⟩
  repeat (first | refine byW ?_ | (refine byV ?_; intro w hw))
  refine W_cond rfl (fun h => ?_) (fun h => ?_)
  · rw [if_pos (by simpa using h)]
    repeat (first | refine byW ?_ | (refine byV ?_; intro w hw))
    exact ⟨_, rfl, rfl, hw.drop⟩
  rw [if_neg (by rw [bool_not h]; simp)]
  clear h
  repeat (first | refine byW ?_ | (refine byV ?_; intro w hw))
  refine W_cond rfl (fun h => ?_) (fun h => ?_)
  · rw [if_pos (by simpa using h)]
    repeat (first | refine byW ?_ | (refine byV ?_; intro w hw))
    exact ⟨_, rfl, rfl, hw.drop⟩
  have hun := bool_not h
  rw [if_neg (by rw [hun]; simp)]
  clear h
  haveI pne : PG Tryz.prog Γ 52 [.agg #[.string H.Name, .slice a1 n1 c1, .slice a2 n2 c2, .slice a3 n3 c3, .slice a4 n4 c4, .slice a5 n5 c5]] (.bool (hierB H)) := ⟨fun S w hw => by
    have := nested_any (hh := hh') hw
    have e : decP (NestP H.Caches) = hierB H := by
      unfold hierB
      have hi : NestP H.Caches ↔ HierP H.Caches := nest_hier fun c hc => by
        unfold uniqueB at hun
        simp only [Bool.and_eq_true, List.all_eq_true, decide_eq_true_eq] at hun
        exact hun.1 c hc
      by_cases hp : HierP H.Caches
      · rw [decP_t hp, decP_t (hi.2 hp)]
      · rw [decP_f hp, decP_f (fun h => hp (hi.1 h))]
    rwa [e] at this⟩
  repeat (first | refine byW ?_ | (refine byV ?_; intro w hw))
  have hknown : ∀ (k : Nat) (x : CacheH), cs[k]? = some x → knownB H = true → ∀ id ∈ x.Cores, (H.Cores.any fun y => decide (y.ID = id)) = true := fun k x hx hk id hid => by
    unfold knownB at hk
    simp only [List.all_eq_true] at hk
    exact hk x.T (by rw [← hcs]; exact List.mem_map_of_mem (List.mem_of_getElem? hx)) id hid
  refine W_loop (fun μ ρ w => ∃ (k : Nat), μ + k = n2 ∧ Has ρ [(1, .pointer (some ⟨b1, 0, none⟩)), (3, .int .i64 k)] ∧ (∀ (i : Nat) (x : CacheH), i < k → cs[i]? = some x → ∀ id ∈ x.Cores, (H.Cores.any fun y => decide (y.ID = id)) = true) ∧ Wd Γ (.blk b1 (hwC H a1 n1 c1 a2 n2 c2 a3 n3 c3 a4 n4 c4 a5 n5 c5) :: S) w) n2 ⟨0, by omega, ⟨rfl, rfl, trivial⟩, fun i x h => by omega, hw⟩ ?_
  clear hw
  rintro μ ρ w ⟨k, hk, hρ, hall, hw⟩
  rw [hρ.eq]
  clear hρ
  repeat (first | refine byW ?_ | (refine byV ?_; intro w hw))
  refine W_cond rfl (fun h => ?_) (fun h => ?_)
  · have hkn : k < n2 := by have := of_decide_eq_true h; omega
    clear h
    obtain ⟨x, hx⟩ := get_lt (l := cs) (k := k) (by omega)
    have hcx := hok x (List.mem_of_getElem? hx)
    obtain ⟨hxn, hxm, hxc⟩ := hcx.facts
    unfold COk at hcx
    repeat (first | refine byW ?_ | (refine byV ?_; intro w hw))
    refine W_loop (fun μ2 ρ w => ∃ (j : Nat), μ2 + j = x.N ∧ Has ρ [(1, .pointer (some ⟨b1, 0, none⟩)), (3, .int .i64 k), (4, .int .i64 j)] ∧ (∀ (i : Nat) (id : Int), i < j → x.Cores[i]? = some id → (H.Cores.any fun y => decide (y.ID = id)) = true) ∧ Wd Γ (.blk b1 (hwC H a1 n1 c1 a2 n2 c2 a3 n3 c3 a4 n4 c4 a5 n5 c5) :: S) w) x.N ⟨0, by omega, ⟨rfl, rfl, rfl, trivial⟩, fun i id h => by omega, hw⟩ ?_
    clear hw
    rintro μ2 ρ w ⟨j, hj, hρ, hall2, hw⟩
    rw [hρ.eq]
    clear hρ
    repeat (first | refine byW ?_ | (refine byV ?_; intro w hw))
    refine W_cond rfl (fun h => ?_) (fun h => ?_)
    · have hjn : j < x.N := by have := of_decide_eq_true h; omega
      clear h
      obtain ⟨id, hid⟩ := get_lt (l := x.Cores) (k := j) (by omega)
      repeat (first | refine byW ?_ | (refine byV ?_; intro w hw))
      refine W_quiet (by kernel_rfl) (by kernel_rfl) hw ?_
      repeat (first | refine Q_nil ?_ | (apply Q_plain; first | (apply Q_go; first | refine qP ?_ | refine qPg ?_) | refine qY ?_) | (apply Q_guarded; first | (apply Q_go; first | refine qPG ?_ | refine qPgG ?_) | refine qG ?_))
      intro w hw
      refine W_cond rfl (fun h => ?_) (fun h => ?_)
      · have h : decide (coreAt H.Cores id < 0) = true := h
        rw [coreAt_neg, Bool.not_eq_true'] at h
        have hkf : knownB H = false := by
          cases hkk : knownB H with
          | false => rfl
          | true => rw [hknown k x hx hkk id (List.mem_of_getElem? hid)] at h; cases h
        rw [if_pos hkf]
        repeat (first | refine byW ?_ | (refine byV ?_; intro w hw))
        exact ⟨_, rfl, rfl, hw.drop⟩
      · have h : decide (coreAt H.Cores id < 0) = false := h
        rw [coreAt_neg, Bool.not_eq_false'] at h
        repeat (first | refine byW ?_ | (refine byV ?_; intro w hw))
        refine ⟨μ2 - 1, by omega, j + 1, by omega, ⟨rfl, rfl, rfl, trivial⟩, fun i id' hi hid' => ?_, hw⟩
        by_cases e : i = j
        · subst e; rw [hid] at hid'; cases hid'; exact h
        · exact hall2 i id' (by omega) hid'
    · have hjn : ¬ j < x.N := by have := of_decide_eq_false h; omega
      repeat (first | refine byW ?_ | (refine byV ?_; intro w hw))
      refine ⟨μ - 1, by omega, k + 1, by omega, ⟨rfl, rfl, trivial⟩, fun i x' hi hx' id hid => ?_, hw⟩
      by_cases e : i = k
      · subst e; rw [hx] at hx'; cases hx'
        obtain ⟨q, hq⟩ := List.getElem?_of_mem hid
        exact hall2 q id (by have := (List.getElem?_eq_some_iff.1 hq).1; omega) hq
      · exact hall i x' (by omega) hx' id hid
  · have hkn : ¬ k < n2 := by have := of_decide_eq_false h; omega
    have hkt : knownB H = true := by
      unfold knownB
      simp only [List.all_eq_true]
      intro c hc id hid
      rw [← hcs] at hc
      obtain ⟨x, hx, rfl⟩ := List.mem_map.1 hc
      obtain ⟨q, hq⟩ := List.getElem?_of_mem hx
      exact hall q x (by have := (List.getElem?_eq_some_iff.1 hq).1; omega) hq id hid
    rw [if_neg (by rw [hkt]; simp)]
    clear h
    repeat (first | refine byW ?_ | (refine byV ?_; intro w hw))
    refine W_cond rfl (fun h => ?_) (fun h => ?_)
    · rw [if_pos (by simpa using h)]
      repeat (first | refine byW ?_ | (refine byV ?_; intro w hw))
      exact ⟨_, rfl, rfl, hw.drop⟩
    rw [if_neg (by rw [bool_not h]; simp)]
    clear h
    repeat (first | refine byW ?_ | (refine byV ?_; intro w hw))
    refine W_cond rfl (fun h => ?_) (fun h => ?_)
    · rw [if_pos (by simpa using h)]
      repeat (first | refine byW ?_ | (refine byV ?_; intro w hw))
      exact ⟨_, rfl, rfl, hw.drop⟩
    rw [if_neg (by rw [bool_not h]; simp)]
    clear h
    repeat (first | refine byW ?_ | (refine byV ?_; intro w hw))
    refine W_cond rfl (fun h => ?_) (fun h => ?_)
    · rw [if_pos (by simpa using h)]
      repeat (first | refine byW ?_ | (refine byV ?_; intro w hw))
      exact ⟨_, rfl, rfl, hw.drop⟩
    rw [if_neg (by rw [bool_not h]; simp)]
    clear h
    repeat (first | refine byW ?_ | (refine byV ?_; intro w hw))
    exact ⟨_, rfl, rfl, hw.drop⟩⟩
end Go.Proofs.YteiijmclobggjaaGreat
end
/- Some resources taken as one: which they are is known up to a condition. -/
section
open Go
namespace Mk
def Res.pk {α : Type} (φ : α → Prop) (R : α → List Res) : Res where
  holds m bs h := ∃ a bss, φ a ∧ Holds m (R a) bss h ∧ bs = bss.flatten
  loc m m' bs h h' hm hb := by
    rintro ⟨a, bss, h1, h2, rfl⟩
    exact ⟨a, bss, h1, Holds.loc hm (R a) bss hb h2, rfl⟩
theorem Wd.pack {Γ : Gho} {S : List Res} {w : World} {α : Type} {φ : α → Prop} {R : α → List Res} (a : α) (ha : φ a) (h : Wd Γ (R a ++ S) w) : Wd Γ (Res.pk φ R :: S) w := by
  obtain ⟨bss, h1, h2, h3⟩ := h.own
  obtain ⟨x, y, rfl, hx, hy⟩ := Holds.split _ _ _ h1
  refine ⟨h.os, h.tape, h.out, h.dr, h.imm, x.flatten :: y, ⟨⟨a, x, ha, hx, rfl⟩, hy⟩, by simpa using h2, fun b hb => h3 b (by simpa using hb)⟩
theorem Wd.unpack {Γ : Gho} {S : List Res} {w : World} {α : Type} {φ : α → Prop} {R : α → List Res} (h : Wd Γ (Res.pk φ R :: S) w) : ∃ a, φ a ∧ Wd Γ (R a ++ S) w := by
  obtain ⟨bss, h1, h2, h3⟩ := h.own
  cases bss with
  | nil => exact h1.elim
  | cons bs y =>
    obtain ⟨⟨a, x, ha, hx, rfl⟩, hy⟩ := h1
    exact ⟨a, ha, h.os, h.tape, h.out, h.dr, h.imm, x ++ y, Holds.append _ _ _ _ hx hy, by simpa using h2, fun b hb => h3 b (by simpa using hb)⟩
end Mk
end
/- A map that is not changed may be read from a later world. -/
section
open Go
namespace Mk
end Mk
end
/- The library's sort at whole numbers, carried into this world of words. -/
section
open Go
namespace Mk

section
variable {P : Program} {Γ : Gho} {S : List Res} {w : World} {E n c g i : Nat} {α : Type} [Inhabited α] {f : α → Value}
theorem flatK_one (d : Array α) : Go.Sort.flatK (fun x => [f x]) 1 d = d.map f := by
  refine Array.ext (by simp) fun i h1 h2 => ?_
  have h3 : i < d.size * 1 := by simpa using h1
  rw [← getElem!_pos _ i h1, Go.Sort.get_flatK _ _ _ _ h3]
  have h4 : i < d.size := by omega
  have e1 : i / 1 = i := Nat.div_one i
  have e2 : i % 1 = 0 := Nat.mod_one i
  rw [e1, e2, getElem!_pos d i h4]
  simp
theorem sortWorld_K1 (w : World) (g m : Nat) (dk : Array α) (os : Array Obj) : Go.Proofs.sortWorld f w g 0 m dk os = Go.Proofs.sortWorldK (fun x => [f x]) 1 w g 0 m dk os := by
  unfold Go.Proofs.sortWorld Go.Proofs.sortWorldK Go.Sort.putRowK Go.Sort.putRow
  congr 2
  funext cs
  refine Array.ext (by simp [Go.Sort.putCells]) fun i h1 h2 => ?_
  simp only [Go.Sort.putCells, Array.getElem_mapIdx, flatK_one, Array.size_map, Nat.zero_le, Nat.zero_add, true_and, Nat.sub_zero, id]
  by_cases h : i < dk.size
  · rw [if_pos h, if_pos h, getElem!_pos dk i h, getElem!_pos (dk.map f) i (by simpa using h)]; simp
  · rw [if_neg h, if_neg h]
theorem SortFunc_1 {ρ : Go.Shelf.Ren} (L : Go.Proofs.SlLaysF.n6 P ρ) (hf1 : ∀ x, (f x).oneCell' = true) (cf : α → α → Int) (fn : Nat) (cap : List Value) [FnOk P fn] (xs : List α) (v : Value) (hw : Wd Γ S w) (hi : S[i]? = some (.own v E 1 (xs.map fun x => [f x])))
    (hO : Go.Sort.SWO (Go.Proofs.ltOf cf)) (hT : ∀ x y, (Go.Proofs.ltOf cf) x y = false → (Go.Proofs.ltOf cf) y x = false → x = y) (hlen : xs.length < 4611686018427387904)
    (hcmp : ∀ (dk : List α) w', Wd Γ (S.set i (.own v E 1 (dk.map fun x => [f x]))) w' → ∀ x y, Calls P fn (#[f x, f y] ++ cap.toArray) w' fun e w'' => e = .returned (.int .i64 (cf x y)) ∧ ∃ S'', Wd (allG w') S'' w'') :
    Calls P (ρ.f 6) #[v, .func (.func fn) #[] cap.toArray] w fun e w' => e = .returned (.tuple #[]) ∧ Wd Γ (S.set i (.own v E 1 ((xs.mergeSort fun x y => !(Go.Proofs.ltOf cf) y x).map fun x => [f x]))) w' := by
  obtain ⟨a, n, c, rfl, e2, e3, e4, e5⟩ := own_block hw hi
  have hn : n = xs.length := by simpa using e2
  by_cases h0 : n = 0
  · have hx : xs = [] := List.eq_nil_of_length_eq_zero (by omega)
    subst h0
    refine (Go.Proofs.AnyF.slices_SortFunc_none (P := P) (ρ := ρ) { L with } a c _ w).mono ?_
    rintro e w' ⟨he, rfl⟩
    refine ⟨he, ?_⟩
    rw [hx] at hi
    rw [hx]
    have hset : S.set i (.own (.slice a 0 c) E 1 ((([] : List α).mergeSort fun x y => !(Go.Proofs.ltOf cf) y x).map fun x => [f x])) = S := by
      obtain ⟨hil, hie⟩ := List.getElem?_eq_some_iff.1 hi
      rw [List.mergeSort_nil, ← hie]; exact List.set_getElem_self hil
    rw [hset]; exact hw
  · have hc : 0 < c := by omega
    rcases e5 with e5 | ⟨g, cur, rfl, hg, hcur, hcs, htk⟩
    · omega
    obtain ⟨hH, hgl⟩ := own_holdsK (enc := fun x : α => [f x]) (k := 1) (fun _ => rfl) hw hi hc
    have hH1 : Go.Sort.Holds f w g 0 xs.toArray := fun j hj => by
      have := hH j (by simpa using hj)
      rw [flatK_one] at this
      have hj : j < xs.length := by simpa using hj
      simpa [hj] using this
    have := Go.Proofs.Any.slices_SortFunc_total L f hf1 cf hO fn cap.toArray g 0 c xs.toArray w (fun args w => run_callFunc args) (fun m os dk hdk x y => ?_) hH1 hgl (by simpa using hlen) hT
    · simp only [List.size_toArray] at this
      rw [← hn] at this
      refine this.mono ?_
      rintro e w' ⟨he, n', os, rfl⟩
      refine ⟨he, ?_⟩
      rw [sortWorld_K1]
      have := own_sortWorld (enc := fun x : α => [f x]) (k := 1) (fun _ => rfl) hw hi hc (xs.mergeSort fun x y => !(Go.Proofs.ltOf cf) y x).toArray (by simp) n' os
      exact this
    · have hw1 := own_sortWorld (enc := fun x : α => [f x]) (k := 1) (fun _ => rfl) hw hi hc dk (by simpa using hdk) m os
      rw [← sortWorld_K1] at hw1
      refine (hcmp dk.toList _ hw1 x y).mono ?_
      rintro e w'' ⟨he, S'', hw2⟩
      exact ⟨he, allG_grow hw2⟩
end
end Mk
end
/- What height computes, in plain words. -/
section
open Go Mk
namespace Go.Proofs.YteiijmclobggjaaGreat

def tcmp (t : Int → Int) (a b : Int) : Int := orI (cI (t b) (t a)) (cI a b)
theorem cI_lt {a b : Int} : cI a b < 0 ↔ a < b := by unfold cI; split <;> (try split) <;> omega
theorem cI_0 {a b : Int} : cI a b = 0 ↔ a = b := by unfold cI; split <;> (try split) <;> omega
theorem tcmp_lt {t : Int → Int} {a b : Int} : Go.Proofs.ltOf (tcmp t) a b = true ↔ t b < t a ∨ (t a = t b ∧ a < b) := by
  unfold Go.Proofs.ltOf tcmp orI
  rw [decide_eq_true_eq]
  by_cases h : cI (t b) (t a) = 0
  · rw [if_pos h, cI_lt]; rw [cI_0] at h; omega
  · rw [if_neg h, cI_lt]; rw [cI_0] at h; omega
theorem tcmp_nlt {t : Int → Int} {a b : Int} : Go.Proofs.ltOf (tcmp t) a b = false ↔ t a < t b ∨ (t a = t b ∧ b ≤ a) := by
  have h : Go.Proofs.ltOf (tcmp t) a b = false ↔ ¬ Go.Proofs.ltOf (tcmp t) a b = true := by simp
  rw [h, tcmp_lt]; omega
theorem tcmp_swo (t : Int → Int) : Go.Sort.SWO (Go.Proofs.ltOf (tcmp t)) where
  irrefl x := by rw [tcmp_nlt]; omega
  trans x y z := by simp only [tcmp_lt]; omega
  ntrans x y z := by simp only [tcmp_nlt]; omega
theorem tcmp_tot (t : Int → Int) (x y : Int) (h : Go.Proofs.ltOf (tcmp t) x y = false) (k : Go.Proofs.ltOf (tcmp t) y x = false) : x = y := by
  rw [tcmp_nlt] at h k; omega
/-- The order of transmission. -/
def tsort (t : Int → Int) (l : List Int) : List Int := l.mergeSort fun x y => !(Go.Proofs.ltOf (tcmp t)) y x
theorem tsort_perm (t : Int → Int) (l : List Int) : (tsort t l).Perm l := List.mergeSort_perm _ _
theorem tsort_congr {t t' : Int → Int} {l : List Int} (h : ∀ a ∈ l, t a = t' a) : tsort t l = tsort t' l := by
  have := List.map_mergeSort (f := (id : Int → Int)) (r := fun x y => !(Go.Proofs.ltOf (tcmp t)) y x) (s := fun x y => !(Go.Proofs.ltOf (tcmp t')) y x) (l := l) (fun a ha b hb => by
    show (!(Go.Proofs.ltOf (tcmp t)) b a) = (!(Go.Proofs.ltOf (tcmp t')) b a)
    unfold Go.Proofs.ltOf tcmp
    rw [h a ha, h b hb])
  simpa [tsort] using this
theorem tsort_pairwise (t : Int → Int) (l : List Int) : (tsort t l).Pairwise fun x y => t y < t x ∨ (t x = t y ∧ x ≤ y) := by
  have := List.pairwise_mergeSort (le := fun x y => !(Go.Proofs.ltOf (tcmp t)) y x) (fun a b c => by simp only [Bool.not_eq_true', tcmp_nlt]; omega) (fun a b => by simp only [Bool.or_eq_true, Bool.not_eq_true', tcmp_nlt]; omega) l
  refine this.imp fun h => ?_
  rw [Bool.not_eq_true', tcmp_nlt] at h
  omega
theorem tsort_of_perm {t : Int → Int} {l l' : List Int} (h : l.Perm l') : tsort t l = tsort t l' := by
  have p : (tsort t l).Perm (tsort t l') := (tsort_perm t l).trans (h.trans (tsort_perm t l').symm)
  exact p.eq_of_pairwise (fun a b _ _ h k => by omega) (tsort_pairwise t l) (tsort_pairwise t l')

section
variable (far : Int → Int → Int) (cost : Int) (ch : Int → List Int)
def hmostF (cost : Int) (t : Int → Int) : Nat → Int → List Int → Int
  | _, m, [] => m
  | i, m, c :: l => hmostF cost t (i + 1) (max m (((i : Int) + 1) * cost + t c)) l
def hF : Nat → Int → Int
  | 0, _ => 0
  | k + 1, c => hmostF cost (fun d => far c d + hF k d) 0 0 (tsort (fun d => far c d + hF k d) (ch c))
def Dep : Nat → Int → Prop
  | 0, _ => False
  | k + 1, c => ∀ d ∈ ch c, Dep k d
inductive Rch : Int → Int → Prop
  | refl (c : Int) : Rch c c
  | step {c d x : Int} : d ∈ ch c → Rch d x → Rch c x
/-- Heights, tails and the order of the children, for a tree of depth at most 4. -/
def hh (c : Int) : Int := hF far cost ch 4 c
def tl (c d : Int) : Int := far c d + hh far cost ch d
def srt (c : Int) : List Int := tsort (tl far cost ch c) (ch c)
end
section
variable {far : Int → Int → Int} {cost : Int} {ch : Int → List Int}
theorem Dep.mono : ∀ {k m : Nat} {c : Int}, Dep ch k c → k ≤ m → Dep ch m c
  | 0, _, _, h, _ => h.elim
  | k + 1, 0, _, _, hm => by omega
  | k + 1, m + 1, c, h, hm => fun d hd => Dep.mono (h d hd) (by omega)
theorem hmostF_congr {t t' : Int → Int} : ∀ {l : List Int} {i : Nat} {m : Int}, (∀ a ∈ l, t a = t' a) → hmostF cost t i m l = hmostF cost t' i m l
  | [], _, _, _ => rfl
  | c :: l, i, m, h => by
    unfold hmostF
    rw [h c (by simp)]
    exact hmostF_congr fun a ha => h a (by simp [ha])
theorem hF_stable : ∀ {k m : Nat} {c : Int}, Dep ch k c → k ≤ m → hF far cost ch m c = hF far cost ch k c
  | 0, _, _, h, _ => h.elim
  | k + 1, 0, _, _, hm => by omega
  | k + 1, m + 1, c, h, hm => by
    have ht : ∀ d ∈ ch c, far c d + hF far cost ch m d = far c d + hF far cost ch k d := fun d hd => by rw [hF_stable (h d hd) (by omega)]
    unfold hF
    rw [tsort_congr ht]
    exact hmostF_congr fun a ha => ht a ((tsort_perm _ _).mem_iff.1 ha)
theorem hh_eq {k : Nat} {c : Int} (hd : Dep ch k c) (hk : k ≤ 4) : hh far cost ch c = hmostF cost (tl far cost ch c) 0 0 (srt far cost ch c) := by
  have hd4 : Dep ch 4 c := hd.mono hk
  unfold hh
  rw [show (4 : Nat) = 3 + 1 from rfl]
  unfold hF
  have ht : ∀ d ∈ ch c, far c d + hF far cost ch 3 d = tl far cost ch c d := fun d hdm => by
    unfold tl hh
    rw [hF_stable (hd4 d hdm) (show 3 ≤ 4 by omega)]
  rw [tsort_congr ht]
  exact hmostF_congr fun a ha => ht a ((tsort_perm _ _).mem_iff.1 ha)
theorem Rch.trans {a b c : Int} (h : Rch ch a b) (k : Rch ch b c) : Rch ch a c := by
  induction h with
  | refl => exact k
  | step hd _ ih => exact .step hd (ih k)
theorem Dep.rch {k : Nat} {a b : Int} (h : Rch ch a b) (hd : Dep ch k a) : Dep ch k b := by
  induction h with
  | refl => exact hd
  | step hm _ ih =>
    cases k with
    | zero => exact hd.elim
    | succ k => exact ih ((hd _ hm).mono (by omega))
theorem no_cycle {c d : Int} (hd : d ∈ ch c) (hr : Rch ch d c) : ∀ {k : Nat}, ¬ Dep ch k c
  | 0, h => h
  | k + 1, h => no_cycle hd hr (k := k) ((h d hd).rch hr)
theorem srt_perm (c : Int) : (srt far cost ch c).Perm (ch c) := tsort_perm _ _
/-- What is sorted below c. -/
noncomputable def upS (far : Int → Int → Int) (cost : Int) (ch : Int → List Int) (D : Int → Prop) (cur : Int → List Int) : Int → List Int := fun x => @ite _ (D x) (Classical.propDecidable _) (srt far cost ch x) (cur x)
theorem upS_in {D : Int → Prop} {cur : Int → List Int} {x : Int} (h : D x) : upS far cost ch D cur x = srt far cost ch x := if_pos h
theorem upS_out {D : Int → Prop} {cur : Int → List Int} {x : Int} (h : ¬ D x) : upS far cost ch D cur x = cur x := if_neg h
theorem upS_upS {D D' : Int → Prop} {cur : Int → List Int} : upS far cost ch D' (upS far cost ch D cur) = upS far cost ch (fun x => D x ∨ D' x) cur := by
  funext x
  by_cases h : D' x
  · rw [upS_in h, upS_in (.inr h)]
  · rw [upS_out h]
    by_cases h2 : D x
    · rw [upS_in h2, upS_in (.inl h2)]
    · rw [upS_out h2, upS_out (fun h3 => h3.elim h2 h)]
theorem upS_congr {D D' : Int → Prop} {cur : Int → List Int} (h : ∀ x, D x ↔ D' x) : upS far cost ch D cur = upS far cost ch D' cur := by
  have : D = D' := funext fun x => propext (h x)
  rw [this]
theorem upS_perm {D : Int → Prop} {cur : Int → List Int} {x : Int} (h : (cur x).Perm (ch x)) : (upS far cost ch D cur x).Perm (ch x) := by
  by_cases hd : D x
  · rw [upS_in hd]; exact srt_perm x
  · rw [upS_out hd]; exact h
theorem hmostF_bound {t : Int → Int} {B : Int} (hc : 0 ≤ cost ∧ cost ≤ 1000000) (hB : 0 ≤ B) {l : List Int} : ∀ {i : Nat} {m : Int}, (∀ a ∈ l, 0 ≤ t a ∧ t a ≤ B) → 0 ≤ m → m ≤ (i : Int) * 1000000 + B → 0 ≤ hmostF cost t i m l ∧ hmostF cost t i m l ≤ ((i : Int) + (l.length : Int)) * 1000000 + B := by
  induction l with
  | nil =>
    intro i m _ h0 hm
    unfold hmostF
    exact ⟨h0, by simpa using hm⟩
  | cons c l ih =>
    intro i m h h0 hm
    unfold hmostF
    have h1 := h c (by simp)
    have h2 : ((i : Int) + 1) * cost ≤ ((i : Int) + 1) * 1000000 := Int.mul_le_mul_of_nonneg_left hc.2 (by omega)
    have h3 : 0 ≤ ((i : Int) + 1) * cost := Int.mul_nonneg (by omega) hc.1
    generalize ((i : Int) + 1) * cost = q at h2 h3
    have h4 := ih (i := i + 1) (m := max m (q + t c)) (fun a ha => h a (by simp [ha])) (by omega) (by omega)
    refine ⟨h4.1, ?_⟩
    have h5 := h4.2
    rw [List.length_cons]
    omega
theorem hh_bound (hc : 0 ≤ cost ∧ cost ≤ 1000000) : ∀ {k : Nat} {c : Int}, Dep ch k c → k ≤ 4 → (∀ a b, Rch ch c a → b ∈ ch a → 0 ≤ far a b ∧ far a b ≤ 63000000) → (∀ a, Rch ch c a → (ch a).length ≤ 1000) → 0 ≤ hh far cost ch c ∧ hh far cost ch c ≤ (k : Int) * 1063000000
  | 0, _, h, _, _, _ => h.elim
  | k + 1, c, h, hk, hf, hl => by
    rw [hh_eq h hk]
    have hm : ∀ d ∈ srt far cost ch c, 0 ≤ tl far cost ch c d ∧ tl far cost ch c d ≤ (k : Int) * 1063000000 + 63000000 := fun d hd => by
      have hd : d ∈ ch c := (srt_perm c).mem_iff.1 hd
      have h1 := hh_bound hc (h d hd) (by omega) (fun a b hr hb => hf a b (.step hd hr) hb) (fun a hr => hl a (.step hd hr))
      have h2 := hf c d (.refl c) hd
      unfold tl
      omega
    have := hmostF_bound (cost := cost) hc (B := (k : Int) * 1063000000 + 63000000) (by omega) (i := 0) (m := 0) hm (Int.le_refl _) (by omega)
    have h3 := hl c (.refl c)
    have h4 := (srt_perm (far := far) (cost := cost) (ch := ch) c).length_eq
    refine ⟨this.1, ?_⟩
    have h5 := this.2
    rw [h4] at h5
    omega
end
end Go.Proofs.YteiijmclobggjaaGreat
end
/- Looking for a core by its number. -/
section
open Go Mk
namespace Go.Proofs.YteiijmclobggjaaGreat
set_option maxHeartbeats 8000000
attribute [local irreducible] Calls
def coreIx (l : List CoreT) (id : Int) : Int := match l.findIdx? (fun x => decide (x.ID = id)) with | some k => k | none => -1
def findC (l : List CoreT) (id : Int) : CoreT × Bool := match l.find? (fun x => decide (x.ID = id)) with | some c => (c, true) | none => (⟨0, 0, 0, 0⟩, false)
theorem coreIx_some {l : List CoreT} {id : Int} {k : Nat} {x : CoreT} (hx : l[k]? = some x) (he : x.ID = id) (hl : ∀ j y, j < k → l[j]? = some y → y.ID ≠ id) : coreIx l id = k ∧ findC l id = (x, true) := by
  obtain ⟨hk, hxk⟩ := List.getElem?_eq_some_iff.1 hx
  have h1 : l.findIdx? (fun x => decide (x.ID = id)) = some k := by
    rw [List.findIdx?_eq_some_iff_getElem]
    refine ⟨hk, by rw [hxk]; simpa using he, fun j hj => ?_⟩
    have := hl j l[j] hj (List.getElem?_eq_getElem ..)
    simpa using this
  have h2 : l.find? (fun x => decide (x.ID = id)) = some x := by
    rw [List.find?_eq_some_iff_getElem]
    refine ⟨by simpa using he, k, hk, hxk, fun j hj => ?_⟩
    have := hl j l[j] hj (List.getElem?_eq_getElem ..)
    simpa using this
  unfold coreIx findC
  rw [h1, h2]; exact ⟨rfl, rfl⟩
theorem coreIx_none {l : List CoreT} {id : Int} (hl : ∀ y ∈ l, y.ID ≠ id) : coreIx l id = -1 ∧ findC l id = (⟨0, 0, 0, 0⟩, false) := by
  have h1 : l.findIdx? (fun x => decide (x.ID = id)) = none := by
    rw [List.findIdx?_eq_none_iff]; intro x hx; simpa using hl x hx
  have h2 : l.find? (fun x => decide (x.ID = id)) = none := by
    rw [List.find?_eq_none]; intro x hx; simpa using hl x hx
  unfold coreIx findC
  rw [h1, h2]; exact ⟨rfl, rfl⟩

theorem find1_any {Γ : Gho} {S : List Res} {w : World} {b : Nat} {id : Int} (x : CoreT) (hw : Wd Γ (.blk b (.cells #[.int .i64 id] 3) :: S) w) :
    Calls Tryz.prog 67 #[.agg (enc x).toArray, .pointer (some ⟨b, 0, none⟩)] w fun e w' => e = .returned (.bool (decide (x.ID = id))) ∧ Wd Γ (.blk b (.cells #[.int .i64 id] 3) :: S) w' := by
  refine calls_of_W Tryz.func67 rfl rfl ?_
  repeat (first | refine byW ?_ | (refine byV ?_; intro w hw))
  refine lBox ?_
  intro b2 w hw
  have hw : Wd Γ (.blk b2 (.cells (enc x).toArray 53) :: .blk b (.cells #[.int .i64 id] 3) :: S) w := hw
  repeat (first | refine byW ?_ | (refine byV ?_; intro w hw))
  exact ⟨_, rfl, rfl, hw.drop⟩
theorem coreIdx_any {Γ : Gho} {S : List Res} {w : World} {b : Nat} {id : Int} {v : Value} {xs : List CoreT} (hr : RepS Γ v 4 (xs.map enc)) (hw : Wd Γ (.blk b (.cells #[.int .i64 id] 3) :: S) w) :
    Calls Tryz.prog 66 #[v, .func (.func 67) #[] #[.pointer (some ⟨b, 0, none⟩)]] w fun e w' => e = .returned (.int .i64 (coreIx xs id)) ∧ Wd Γ (.blk b (.cells #[.int .i64 id] 3) :: S) w' := by
  obtain ⟨a, n, c, rfl, hn, hnc, hc⟩ := hr.shape
  simp only [List.length_map] at hn
  refine calls_of_W Tryz.func66 rfl rfl ?_
  repeat (first | refine byW ?_ | (refine byV ?_; intro w hw))
  refine W_loop (fun μ ρ w => ∃ (k : Nat), μ + k = n ∧ Has ρ [(0, .slice a n c), (1, .func (.func 67) #[] #[.pointer (some ⟨b, 0, none⟩)]), (7, .int .i64 n), (8, .int .i64 k)] ∧ (∀ j x, j < k → xs[j]? = some x → x.ID ≠ id) ∧ Wd Γ (.blk b (.cells #[.int .i64 id] 3) :: S) w) n ⟨0, by omega, ⟨rfl, rfl, rfl, rfl, trivial⟩, fun j x h => by omega, hw⟩ ?_
  clear hw
  rintro μ ρ w ⟨k, hk, hρ, hno, hw⟩
  rw [hρ.eq]
  clear hρ
  repeat (first | refine byW ?_ | (refine byV ?_; intro w hw))
  refine W_cond rfl (fun h => ?_) (fun h => ?_)
  · have hkn : k < n := by have := of_decide_eq_true h; omega
    obtain ⟨x, hx⟩ := get_lt (l := xs) (k := k) (by omega)
    repeat (first | refine byW ?_ | (refine byV ?_; intro w hw))
    refine lCallv (fst := []) (cap := [.pointer (some ⟨b, 0, none⟩)]) (vs := [.agg (enc x).toArray]) ?_
    refine (find1_any x hw).mono ?_
    clear hw
    rintro e w ⟨rfl, hw⟩
    refine ⟨_, rfl, ?_⟩
    repeat (first | refine byW ?_ | (refine byV ?_; intro w hw))
    refine W_cond rfl (fun h2 => ?_) (fun h2 => ?_)
    · have h2 : x.ID = id := of_decide_eq_true h2
      repeat (first | refine byW ?_ | (refine byV ?_; intro w hw))
      exact ⟨_, rfl, by rw [(coreIx_some hx h2 hno).1]; rfl, hw⟩
    · have h2 : ¬ x.ID = id := of_decide_eq_false h2
      repeat (first | refine byW ?_ | (refine byV ?_; intro w hw))
      refine ⟨μ - 1, by omega, k + 1, by omega, ⟨rfl, rfl, rfl, rfl, trivial⟩, fun j y hj hy => ?_, hw⟩
      by_cases e : j = k
      · subst e; rw [hx] at hy; cases hy; exact h2
      · exact hno j y (by omega) hy
  · have hkn : ¬ k < n := by have := of_decide_eq_false h; omega
    repeat (first | refine byW ?_ | (refine byV ?_; intro w hw))
    exact ⟨_, rfl, by rw [(coreIx_none (l := xs) (id := id) (fun y hy => by
      obtain ⟨j, hj⟩ := List.mem_iff_getElem?.1 hy
      exact hno j y (by have := (List.getElem?_eq_some_iff.1 hj).1; omega) hj)).1]; rfl, hw⟩
theorem coreIx_cases (l : List CoreT) (id : Int) : (coreIx l id = -1 ∧ findC l id = (⟨0, 0, 0, 0⟩, false) ∧ ∀ y ∈ l, y.ID ≠ id) ∨ ∃ (k : Nat) (x : CoreT), coreIx l id = k ∧ l[k]? = some x ∧ x.ID = id ∧ findC l id = (x, true) := by
  by_cases h : ∀ y ∈ l, y.ID ≠ id
  · have := coreIx_none h
    exact .inl ⟨this.1, this.2, h⟩
  · right
    cases hq : l.findIdx? (fun x => decide (x.ID = id)) with
    | none =>
      exfalso; apply h
      intro y hy he
      have := List.findIdx?_eq_none_iff.1 hq y hy
      simp [he] at this
    | some k =>
      obtain ⟨hk, h1, h2⟩ := List.findIdx?_eq_some_iff_getElem.1 hq
      have hx := List.getElem?_eq_getElem hk
      have h1 : l[k].ID = id := by simpa using h1
      have := coreIx_some hx h1 (fun j y hj hy => by
        obtain ⟨hj2, e⟩ := List.getElem?_eq_some_iff.1 hy
        have := h2 j hj
        rw [← e]; simpa using this)
      exact ⟨k, l[k], this.1, hx, h1, this.2⟩

instance pg_find {Γ : Gho} {u : Value} {H : HwT} [hh : HwR Γ u H] (id : Int) : PG Tryz.prog Γ 30 [u, .int .i64 id] (.tuple #[.agg (enc (findC H.Cores id).1).toArray, .bool (findC H.Cores id).2]) := ⟨fun S w hw => by
  obtain ⟨a1, n1, c1, a2, n2, c2, a3, n3, c3, a4, n4, c4, a5, n5, c5, cs, rfl, hcs, hok, hsz, r1, r2, r3, r4, r5⟩ := hh.h
  obtain ⟨hn1, hm1, hx1⟩ := rep_facts r1
  simp only [List.length_map] at hn1
  refine calls_of_WC Tryz.func30 rfl rfl ?_
  repeat (first | refine byW ?_ | (refine byV ?_; intro w hw))
  refine lBox ?_
  intro b2 w hw
  refine lBox ?_
  intro b3 w hw
  refine lAlloc ?_
  intro b4 w hw
  have hw : Wd Γ (.blk b4 (.cells (enc (⟨0, 0, 0, 0⟩ : CoreT)).toArray 53) :: .blk b3 (.cells #[.int .i64 id] 3) :: .blk b2 (.cells #[.string H.Name, .slice a1 n1 c1, .slice a2 n2 c2, .slice a3 n3 c3, .slice a4 n4 c4, .slice a5 n5 c5] 28) :: S) w := hw
  repeat (first | refine byW ?_ | (refine byV ?_; intro w hw))
  refine lCall ((coreIdx_any (id := id) r1 (hw.ps [1])).mono fun e w hq => ?_)
  obtain ⟨rfl, hw⟩ := hq
  have hw := hw.ps [1]
  refine ⟨_, rfl, ?_⟩
  rcases coreIx_cases H.Cores id with ⟨h1, h2, -⟩ | ⟨k, x, h1, hx, he, h2⟩
  · rw [h1, h2]
    repeat (first | refine byW ?_ | (refine byV ?_; intro w hw))
    refine W_cond_true rfl ?_
    repeat (first | refine byW ?_ | (refine byV ?_; intro w hw))
    refine lStore ?_
    intro w hw
    have hw : Wd Γ (.blk b4 (.cells (enc (⟨0, 0, 0, 0⟩ : CoreT)).toArray 53) :: .blk b3 (.cells #[.int .i64 id] 3) :: .blk b2 (.cells #[.string H.Name, .slice a1 n1 c1, .slice a2 n2 c2, .slice a3 n3 c3, .slice a4 n4 c4, .slice a5 n5 c5] 28) :: S) w := hw
    repeat (first | refine byW ?_ | (refine byV ?_; intro w hw))
    exact ⟨[_, _], ⟨resC (i := 0) hw rfl rfl rfl, rfl, trivial⟩, rfl, hw.ds [0, 0, 0]⟩
  · rw [h1, h2]
    have hk : k < n1 := by have := (List.getElem?_eq_some_iff.1 hx).1; omega
    repeat (first | refine byW ?_ | (refine byV ?_; intro w hw))
    refine W_cond_false (by show Value.bool (decide ((k : Int) < 0)) = _; rw [decide_eq_false (by omega)]) ?_
    repeat (first | refine byW ?_ | (refine byV ?_; intro w hw))
    refine lStore ?_
    intro w hw
    have hw : Wd Γ (.blk b4 (.cells (enc x).toArray 53) :: .blk b3 (.cells #[.int .i64 id] 3) :: .blk b2 (.cells #[.string H.Name, .slice a1 n1 c1, .slice a2 n2 c2, .slice a3 n3 c3, .slice a4 n4 c4, .slice a5 n5 c5] 28) :: S) w := hw
    repeat (first | refine byW ?_ | (refine byV ?_; intro w hw))
    exact ⟨[_, _], ⟨resC (i := 0) hw rfl rfl rfl, rfl, trivial⟩, rfl, hw.ds [0, 0, 0]⟩⟩
end Go.Proofs.YteiijmclobggjaaGreat
end
/- Distances between cores, each node's computed once. -/
section
open Go Mk
namespace Go.Proofs.YteiijmclobggjaaGreat
set_option maxHeartbeats 8000000
attribute [local irreducible] Calls
noncomputable def distL (H : HwT) (s : Int) : List Int := (List.range 64).map fun i : Nat => dstI (nbrL H.Links) s (i : Int)
theorem distL_get {H : HwT} {s x : Int} (h0 : 0 ≤ x) (h1 : x < 64) : (distL H s)[x.toNat]? = some (dstI (nbrL H.Links) s x) := by
  unfold distL
  rw [List.getElem?_map, List.getElem?_range (by omega)]
  show some (dstI _ s ((x.toNat : Nat) : Int)) = _
  rw [show ((x.toNat : Nat) : Int) = x by omega]
theorem distL_eq {H : HwT} {s : Int} {O : List Int} (hO : O.length = 64) (hd : ∀ x, 0 ≤ x → x < 64 → Dst (nbrL H.Links) s x (oat O x) ∧ oat O x ≤ 128001000000) : O = distL H s := by
  refine List.ext_getElem? fun i => ?_
  by_cases h : i < 64
  · have h1 := distL_get (H := H) (s := s) (x := i) (by omega) (by omega)
    rw [show ((i : Int)).toNat = i by omega] at h1
    rw [h1]
    have h2 := (hd i (by omega) (by omega)).1.eq
    rw [h2]
    unfold oat
    rw [show ((i : Int)).toNat = i by omega, List.getD_eq_getElem?_getD, List.getElem?_eq_getElem (by omega)]; rfl
  · rw [List.getElem?_eq_none (by omega), List.getElem?_eq_none (by unfold distL; simp; omega)]
theorem distancesL_any {Γ : Gho} {u : Value} {H : HwT} [hh : HwR Γ u H] (hL : LinksOk H.Links) {s : Int} (hs : 0 ≤ s ∧ s < 64) {S : List Res} {w : World} (hw : Wd Γ S w) :
    Calls Tryz.prog 47 #[u, .int .i64 s] w fun e w' => ∃ v, e = .returned v ∧ Wd Γ (.own v 3 1 (intRows (distL H s)) :: S) w' :=
  (distances_any hL hs hw).mono fun e w' ⟨v, O, h1, h2, h3, h4⟩ => ⟨v, h1, by rw [← distL_eq h2 h3]; exact h4⟩
/-- All distances are bounded. -/
noncomputable def coreN (H : HwT) (x : Int) : Int := (findC H.Cores x).1.Node
noncomputable def farI (H : HwT) (x y : Int) : Int := dstI (nbrL H.Links) (coreN H x) (coreN H y)

abbrev btwB (bb : Nat) (H : HwT) (a1 : Option Addr) (n1 c1 : Nat) (a2 : Option Addr) (n2 c2 : Nat) (a3 : Option Addr) (n3 c3 : Nat) (a4 : Option Addr) (n4 c4 : Nat) (a5 : Option Addr) (n5 c5 : Nat) (bm : Nat) : Res :=
  .blk bb (.cells #[.string H.Name, .slice a1 n1 c1, .slice a2 n2 c2, .slice a3 n3 c3, .slice a4 n4 c4, .slice a5 n5 c5, .map (some bm)] 78)
noncomputable def dsO (H : HwT) (e : Int × Value) : Res := .own e.2 3 1 (intRows (distL H e.1))
theorem own_some {Γ : Gho} {S : List Res} {w : World} {H : HwT} {x : Int} {aa : Option Addr} {na ca : Nat} (hw : Wd Γ (.own (.slice aa na ca) 3 1 (intRows (distL H x)) :: S) w) : aa ≠ none := by
  obtain ⟨bss, h1, -⟩ := hw.own
  cases bss with
  | nil => exact h1.elim
  | cons bs bss =>
    have hr := h1.1
    unfold Res.own at hr
    obtain ⟨-, a, n, c, e, hn, hnc, -, h⟩ := hr
    cases e
    rcases h with ⟨h, -⟩ | ⟨g, cur, h, -⟩
    · have : na = 64 := by rw [hn]; simp [intRows, distL]
      omega
    · rw [h]; simp
theorem ds_find {Γ : Gho} {A S : List Res} {w : World} {H : HwT} {l : List (Int × Value)} {a : Int} {v : Value} (hl : (l.map (·.1)).Nodup) (hg : aGet l a = some v) (hw : Wd Γ (A ++ (l.map (dsO H) ++ S)) w) : Wd Γ (dsO H (a, v) :: (A ++ ((restL l a).map (dsO H) ++ S))) w :=
  hw.perm ((List.Perm.append_left A (((aGet_perm hl hg).map (dsO H)).append_right S)).trans List.perm_middle)
theorem ds_back {Γ : Gho} {A S : List Res} {w : World} {H : HwT} {l : List (Int × Value)} {a : Int} {v : Value} (hl : (l.map (·.1)).Nodup) (hg : aGet l a = some v) (hw : Wd Γ (dsO H (a, v) :: (A ++ ((restL l a).map (dsO H) ++ S))) w) : Wd Γ (A ++ (l.map (dsO H) ++ S)) w :=
  hw.perm ((List.Perm.append_left A (((aGet_perm hl hg).map (dsO H)).append_right S)).trans List.perm_middle).symm
theorem cores_any {Γ : Gho} {H : HwT} {a1 : Option Addr} {n1 c1 : Nat} {a2 : Option Addr} {n2 c2 : Nat} {a3 : Option Addr} {n3 c3 : Nat} {a4 : Option Addr} {n4 c4 : Nat} {a5 : Option Addr} {n5 c5 : Nat} [hh : HwR Γ (.agg #[.string H.Name, .slice a1 n1 c1, .slice a2 n2 c2, .slice a3 n3 c3, .slice a4 n4 c4, .slice a5 n5 c5]) H] (hL : LinksOk H.Links) {x y : Int} (hx : 0 ≤ coreN H x ∧ coreN H x < 64) (hy : 0 ≤ coreN H y ∧ coreN H y < 64) {bb bm : Nat} {l : List (Int × Value)} (hl : (l.map (·.1)).Nodup) {S : List Res} {w : World} (hw : Wd Γ (btwB bb H a1 n1 c1 a2 n2 c2 a3 n3 c3 a4 n4 c4 a5 n5 c5 bm :: adjM bm l :: (l.map (dsO H) ++ S)) w) :
    Calls Tryz.prog 40 #[.pointer (some ⟨bb, 0, none⟩), .int .i64 x, .int .i64 y] w fun e w' => e = .returned (.int .i64 (farI H x y)) ∧ ∃ l', (l'.map (·.1)).Nodup ∧ Wd Γ (btwB bb H a1 n1 c1 a2 n2 c2 a3 n3 c3 a4 n4 c4 a5 n5 c5 bm :: adjM bm l' :: (l'.map (dsO H) ++ S)) w' := by
  unfold farI
  unfold coreN at hx hy ⊢
  refine calls_of_W Tryz.func40 rfl rfl ?_
  generalize hp : (findC H.Cores x).1 = p at hx ⊢
  generalize hq : (findC H.Cores y).1 = q at hy ⊢
  repeat (first | refine byW ?_ | (refine byV ?_; intro w hw))
  refine lPg (hp := pg_find (hh := hh) x) ?_
  intro w hw
  rw [hp]
  repeat (first | refine byW ?_ | (refine byV ?_; intro w hw))
  refine lAlloc ?_
  intro b7 w hw
  refine lStore ?_
  intro w hw
  repeat (first | refine byW ?_ | (refine byV ?_; intro w hw))
  refine lPg (hp := pg_find (hh := hh) y) ?_
  intro w hw
  rw [hq]
  repeat (first | refine byW ?_ | (refine byV ?_; intro w hw))
  refine lAlloc ?_
  intro b9 w hw
  refine lStore ?_
  intro w hw
  have hw : Wd Γ (.blk b9 (.cells (enc q).toArray 53) :: .blk b7 (.cells (enc p).toArray 53) :: btwB bb H a1 n1 c1 a2 n2 c2 a3 n3 c3 a4 n4 c4 a5 n5 c5 bm :: adjM bm l :: (l.map (dsO H) ++ S)) w := hw
  repeat (first | refine byW ?_ | (refine byV ?_; intro w hw))
  obtain ⟨aa, na, ca, hva, hcs⟩ : ∃ aa na ca, zeroOr l p.Node (.slice aa na ca) ∧ ((aa = none ∧ aGet l p.Node = none) ∨ (aa ≠ none ∧ aGet l p.Node = some (.slice aa na ca))) := by
    cases hg : aGet l p.Node with
    | none => exact ⟨none, 0, 0, .inr ⟨hg, rfl⟩, .inl ⟨rfl, rfl⟩⟩
    | some v =>
      have hw2 := ds_find (A := [.blk b9 (.cells (enc q).toArray 53), .blk b7 (.cells (enc p).toArray 53), btwB bb H a1 n1 c1 a2 n2 c2 a3 n3 c3 a4 n4 c4 a5 n5 c5 bm, adjM bm l]) hl hg hw
      unfold dsO at hw2
      obtain ⟨aa, na, ca, rfl, hn, -⟩ := hw2.own_shape (i := 0) rfl
      have hns := own_some hw2
      exact ⟨aa, na, ca, .inl hg, .inr ⟨hns, rfl⟩⟩
  refine W_quiet (by kernel_rfl) (by kernel_rfl) hw ?_
  repeat (first | refine Q_nil ?_ | (apply Q_plain; first | (apply Q_go; first | refine qP ?_ | refine qPg ?_) | refine qY ?_) | (apply Q_guarded; first | (apply Q_go; first | refine qPG ?_ | refine qPgG ?_) | refine qG ?_))
  refine qY (v := .slice aa na ca) ?_ (hy := fun w hw => y_lookupZ hw hva (i := 3) rfl rfl rfl)
  repeat (first | refine Q_nil ?_ | (apply Q_plain; first | (apply Q_go; first | refine qP ?_ | refine qPg ?_) | refine qY ?_) | (apply Q_guarded; first | (apply Q_go; first | refine qPG ?_ | refine qPgG ?_) | refine qG ?_))
  intro w hw
  refine W_cutT (fun ρ w => ∃ (l' : List (Int × Value)) (v : Value), (l'.map (·.1)).Nodup ∧ aGet l' p.Node = some v ∧ Has ρ [(0, .pointer (some ⟨bb, 0, none⟩)), (7, .pointer (some ⟨b7, 0, none⟩)), (9, .pointer (some ⟨b9, 0, none⟩))] ∧ Wd Γ ([.blk b9 (.cells (enc q).toArray 53), .blk b7 (.cells (enc p).toArray 53), btwB bb H a1 n1 c1 a2 n2 c2 a3 n3 c3 a4 n4 c4 a5 n5 c5 bm, adjM bm l'] ++ (l'.map (dsO H) ++ S)) w) ?_ ?_
  · refine W_cond rfl (fun h => ?_) (fun h => ?_)
    · have h : aa.isNone = true := h
      have hg : aGet l p.Node = none := by
        rcases hcs with ⟨-, hg⟩ | ⟨hh2, -⟩
        · exact hg
        · cases aa with
          | none => exact (hh2 rfl).elim
          | some _ => simp at h
      have hw : Wd Γ ([.blk b7 (.cells (enc p).toArray 53), btwB bb H a1 n1 c1 a2 n2 c2 a3 n3 c3 a4 n4 c4 a5 n5 c5 bm] ++ ([adjM bm l] ++ ((.blk b9 (.cells (enc q).toArray 53) :: (l.map (dsO H) ++ S)) ++ []))) w := by
        rw [List.append_nil]
        exact hw.perm ((List.perm_middle (l₁ := [.blk b7 (.cells (enc p).toArray 53), btwB bb H a1 n1 c1 a2 n2 c2 a3 n3 c3 a4 n4 c4 a5 n5 c5 bm, adjM bm l])).symm)
      repeat (first | refine byW ?_ | (refine byV ?_; intro w hw))
      refine W_mixed [.blk b7 (.cells (enc p).toArray 53), btwB bb H a1 n1 c1 a2 n2 c2 a3 n3 c3 a4 n4 c4 a5 n5 c5 bm] [fun _ => [adjM bm l], fun _ => .blk b9 (.cells (enc q).toArray 53) :: (l.map (dsO H) ++ S)] [[],[],[],[],[],[],[],[],[],[],[],[],[0],[0]] [[],[],[],[],[],[],[],[],[],[],[],[],[0],[0]] [[49], []] (by exact hw) ?_
      repeat (first | refine mY ?_ | refine mP ?_ | refine mPg ?_)
      refine mCallG (c := 0) (F := fun _ => [adjM bm l]) (F' := fun g => [adjM bm l, .own (g 49) 3 1 (intRows (distL H p.Node))]) (vs := fun _ => [.agg #[.string H.Name, .slice a1 n1 c1, .slice a2 n2 c2, .slice a3 n3 c3, .slice a4 n4 c4, .slice a5 n5 c5], .int .i64 p.Node]) (hs := fun g w Y hw => (distancesL_any hL hx hw).mono fun e w' ⟨v, h1, h2⟩ => ⟨v, h1, h2.ps [1]⟩) ?_
      refine mPutV (j := 0) ?_
      refine mEnd fun w g hw => ?_
      have hw : Wd Γ ([.blk b7 (.cells (enc p).toArray 53), btwB bb H a1 n1 c1 a2 n2 c2 a3 n3 c3 a4 n4 c4 a5 n5 c5 bm, adjM bm (aSet l p.Node (g 49)), dsO H (p.Node, g 49)] ++ (.blk b9 (.cells (enc q).toArray 53) :: ((l.map (dsO H) ++ S) ++ []))) w := hw
      rw [List.append_nil] at hw
      have hpm := (aSet_perm hl p.Node (g 49)).map (dsO H)
      rw [aGet_none_filter hg, List.map_cons] at hpm
      have hw : Wd Γ ([.blk b9 (.cells (enc q).toArray 53), .blk b7 (.cells (enc p).toArray 53), btwB bb H a1 n1 c1 a2 n2 c2 a3 n3 c3 a4 n4 c4 a5 n5 c5 bm, adjM bm (aSet l p.Node (g 49))] ++ (dsO H (p.Node, g 49) :: l.map (dsO H) ++ S)) w := hw.perm List.perm_middle
      have hw := hw.perm (List.Perm.append_left _ (hpm.append_right S).symm)
      exact ⟨aSet l p.Node (g 49), g 49, aSet_keys hl _ _, by rw [aGet_aSet, if_pos rfl], ⟨rfl, rfl, rfl, trivial⟩, hw⟩
    · have h : aa.isNone = false := h
      have hg : aGet l p.Node = some (.slice aa na ca) := by
        rcases hcs with ⟨rfl, -⟩ | ⟨-, hg⟩
        · simp at h
        · exact hg
      repeat (first | refine byW ?_ | (refine byV ?_; intro w hw))
      exact ⟨l, _, hl, hg, ⟨rfl, rfl, rfl, trivial⟩, hw⟩
  · clear hw hva hcs
    rintro ρ w ⟨l', v, hl', hg', hρ, hw⟩
    rw [hρ.eq]
    clear hρ
    have hw := ds_find hl' hg' hw
    obtain ⟨aa, na, ca, rfl, hn, hnc, -⟩ := hw.own_shape (i := 0) rfl
    have hn : na = 64 := by rw [hn]; simp [intRows, distL]
    subst hn
    have hgd := distL_get (H := H) (s := p.Node) hy.1 hy.2
    have hw : Wd Γ (.own (.slice aa 64 ca) 3 1 (intRows (distL H p.Node)) :: .blk b9 (.cells (enc q).toArray 53) :: .blk b7 (.cells (enc p).toArray 53) :: btwB bb H a1 n1 c1 a2 n2 c2 a3 n3 c3 a4 n4 c4 a5 n5 c5 bm :: adjM bm l' :: ((restL l' p.Node).map (dsO H) ++ S)) w := hw
    have hlen : (distL H p.Node).length = 64 := by simp [distL]
    repeat (first | refine byW ?_ | (refine byV ?_; intro w hw))
    refine W_quiet (by kernel_rfl) (by kernel_rfl) hw ?_
    repeat (first | refine Q_nil ?_ | (apply Q_plain; first | (apply Q_go; first | refine qP ?_ | refine qPg ?_) | refine qY ?_) | (apply Q_guarded; first | (apply Q_go; first | refine qPG ?_ | refine qPgG ?_) | refine qG ?_))
    refine qY (v := .slice aa 64 ca) ?_ (hy := fun w hw => y_lookupZ hw (.inl hg') (i := 4) rfl rfl rfl)
    repeat (first | refine Q_nil ?_ | (apply Q_plain; first | (apply Q_go; first | refine qP ?_ | refine qPg ?_) | refine qY ?_) | (apply Q_guarded; first | (apply Q_go; first | refine qPG ?_ | refine qPgG ?_) | refine qG ?_))
    intro w hw
    repeat (first | refine byW ?_ | (refine byV ?_; intro w hw))
    have hw := ds_back (A := [.blk b9 (.cells (enc q).toArray 53), .blk b7 (.cells (enc p).toArray 53), btwB bb H a1 n1 c1 a2 n2 c2 a3 n3 c3 a4 n4 c4 a5 n5 c5 bm, adjM bm l']) hl' hg' hw
    exact ⟨_, rfl, rfl, l', hl', hw.ds [0, 0]⟩
end Go.Proofs.YteiijmclobggjaaGreat
end
/- What is asked of a root and of members. -/
section
open Go Mk
namespace Go.Proofs.YteiijmclobggjaaGreat
set_option maxHeartbeats 8000000
attribute [local irreducible] Calls
theorem s_insert {P : Program} {d : Option Tmp} {T ty : TypeId} {pos : String} {es : Array Edge} {g : Option (Nat × Bool)} {x y z : Operand} {ρ : Fr} {w : World} {K : Value → World → Prop} (h : Step P ⟨d, .mapUpdate T x y z, ty, pos, es, g⟩ ρ w K) : Step P ⟨d, .insert T x y z, ty, pos, es, g⟩ ρ w K := by
  unfold Step execOp at h ⊢
  exact h
theorem ints1 (xs : List Int) : (intRows xs).flatten.all (·.oneCell') = true := by
  induction xs with
  | nil => rfl
  | cons x xs ih => simp only [intRows, List.map_cons, List.flatten_cons, List.all_append] at ih ⊢; rw [ih]; rfl
class ShortL {α : Type} (l : List α) : Prop where h : l.length ≤ 1000
noncomputable def memErr (H : HwT) (r : Int) (ms : List Int) : Int := if (r :: ms).all (fun id => (findC H.Cores id).2) = false then 57 else if decP (r :: ms).Nodup = false then 56 else 0
instance pg_members {Γ : Gho} {u v : Value} {H : HwT} [hh : HwR Γ u H] {ms : List Int} [hr : SlC Γ v 1 (intRows ms)] [hsh : ShortL ms] (r : Int) : PG Tryz.prog Γ 29 [u, .int .i64 r, v] (.int .i64 (memErr H r ms)) := ⟨fun S w hw => by
  have hh' := hh
  obtain ⟨a1, n1, c1, a2, n2, c2, a3, n3, c3, a4, n4, c4, a5, n5, c5, cs, rfl, -⟩ := hh.h
  have hrs := hr.h
  obtain ⟨am, nm, cm, rfl, hnm, hnmc, hcm⟩ := hr.h.shape
  simp only [intRows, List.length_map] at hnm
  refine calls_of_W Tryz.func29 rfl rfl ?_
  repeat (first | refine byW ?_ | (refine byV ?_; intro w hw))
  refine lBox ?_
  intro b3 w hw
  have hw : Wd Γ (.blk b3 (.cells #[.string H.Name, .slice a1 n1 c1, .slice a2 n2 c2, .slice a3 n3 c3, .slice a4 n4 c4, .slice a5 n5 c5] 28) :: S) w := hw
  repeat (first | refine byW ?_ | (refine byV ?_; intro w hw))
  refine lBuildSlice [[.int .i64 r]] ?_
  intro ar w hw
  have hw : Wd Γ (.own (.slice (some ar) 1 1) 3 1 (intRows [r]) :: .blk b3 (.cells #[.string H.Name, .slice a1 n1 c1, .slice a2 n2 c2, .slice a3 n3 c3, .slice a4 n4 c4, .slice a5 n5 c5] 28) :: S) w := hw
  repeat (first | refine byW ?_ | (refine byV ?_; intro w hw))
  have hms := hsh.h
  refine lApp (i := 0) (rows2 := intRows ms) ?_ (hrs.rd hw) rfl rfl hw rfl (ints1 ms) (by simp [intRows]; omega)
  intro v' w hw
  obtain ⟨a0, n0, c0, rfl, hn0, hnc0, -⟩ := hw.own_shape (i := 0) rfl
  have hn0 : n0 = ms.length + 1 := by rw [hn0]; simp [intRows]
  have hw : Wd Γ (.own (.slice a0 n0 c0) 3 1 (intRows (r :: ms)) :: .blk b3 (.cells #[.string H.Name, .slice a1 n1 c1, .slice a2 n2 c2, .slice a3 n3 c3, .slice a4 n4 c4, .slice a5 n5 c5] 28) :: S) w := hw
  unfold memErr
  repeat (first | refine byW ?_ | (refine byV ?_; intro w hw))
  refine W_loop (fun μ ρ w => ∃ (k : Nat), μ + k = n0 ∧ Has ρ [(1, .int .i64 r), (2, .slice am nm cm), (3, .pointer (some ⟨b3, 0, none⟩)), (17, .slice a0 n0 c0), (18, .int .i64 n0), (19, .int .i64 k)] ∧ (∀ i x, i < k → (r :: ms)[i]? = some x → (fun id => (findC H.Cores id).2) x = true) ∧ Wd Γ (.own (.slice a0 n0 c0) 3 1 (intRows (r :: ms)) :: .blk b3 (.cells #[.string H.Name, .slice a1 n1 c1, .slice a2 n2 c2, .slice a3 n3 c3, .slice a4 n4 c4, .slice a5 n5 c5] 28) :: S) w) n0 ⟨0, by omega, ⟨rfl, rfl, rfl, rfl, rfl, rfl, trivial⟩, fun i x h => by omega, hw⟩ ?_
  clear hw
  rintro μ ρ w ⟨k, hk, hρ, hall, hw⟩
  rw [hρ.eq]
  clear hρ
  repeat (first | refine byW ?_ | (refine byV ?_; intro w hw))
  refine W_cond rfl (fun h => ?_) (fun h => ?_)
  · have hkn : k < n0 := by have := of_decide_eq_true h; omega
    obtain ⟨x, hx⟩ := get_lt (l := r :: ms) (k := k) (by simp; omega)
    have hxl : (r :: ms).length = ms.length + 1 := rfl
    repeat (first | refine byW ?_ | (refine byV ?_; intro w hw))
    refine lAlloc ?_
    intro b9 w hw
    refine lStore ?_
    intro w hw
    have hw : Wd Γ (.own (.slice a0 n0 c0) 3 1 (intRows (r :: ms)) :: .blk b3 (.cells #[.string H.Name, .slice a1 n1 c1, .slice a2 n2 c2, .slice a3 n3 c3, .slice a4 n4 c4, .slice a5 n5 c5] 28) :: S) w := Wd.drop hw
    repeat (first | refine byW ?_ | (refine byV ?_; intro w hw))
    refine W_cond rfl (fun h2 => ?_) (fun h2 => ?_)
    · have h2 : (!(findC H.Cores x).2) = true := h2
      rw [if_pos (all_no (p := fun id => (findC H.Cores id).2) hx (by simpa using h2))]
      repeat (first | refine byW ?_ | (refine byV ?_; intro w hw))
      exact ⟨_, rfl, rfl, hw.ds [0, 0]⟩
    · have h2 : (!(findC H.Cores x).2) = false := h2
      repeat (first | refine byW ?_ | (refine byV ?_; intro w hw))
      exact ⟨μ - 1, by omega, k + 1, by omega, ⟨rfl, rfl, rfl, rfl, rfl, rfl, trivial⟩, all_step (p := fun id => (findC H.Cores id).2) hall hx (by simpa using h2), hw⟩
  have hkn : ¬ k < n0 := by have := of_decide_eq_false h; omega
  rw [if_neg (by rw [all_end (p := fun id => (findC H.Cores id).2) hall (by simp; omega)]; simp)]
  clear h hkn hall hk
  repeat (first | refine byW ?_ | (refine byV ?_; intro w hw))
  refine L_step rfl rfl (s_makeMap (K := 3) (α := Int) (f := Value.bool) hw fun bm w hw => ?_)
  repeat (first | refine byW ?_ | (refine byV ?_; intro w hw))
  refine L_step rfl rfl (s_insert (s_mapUpdate (P := Tryz.prog) (K := 3) (α := Int) (f := Value.bool) (i := 0) (v := true) (a := r) hw rfl rfl rfl rfl fun w hw => ?_))
  rw [show ([] : List (Int × Bool)) = seenL ([] : List Int) from rfl, seen_set (by simp)] at hw
  have hw : Wd Γ (Res.mpT Tryz.prog 3 Value.bool bm (seenL (r :: ms.take 0)) :: S) w := hw.ds [1, 1]
  repeat (first | refine byW ?_ | (refine byV ?_; intro w hw))
  refine W_loop (fun μ ρ w => ∃ (k : Nat), μ + k = nm ∧ Has ρ [(11, .map (some bm)), (35, .slice am nm cm), (36, .int .i64 nm), (37, .int .i64 k)] ∧ (r :: ms.take k).Nodup ∧ Wd Γ (Res.mpT Tryz.prog 3 Value.bool bm (seenL (r :: ms.take k)) :: S) w) nm ⟨0, by omega, ⟨rfl, rfl, rfl, rfl, trivial⟩, by simp, hw⟩ ?_
  clear hw
  rintro μ ρ w ⟨k, hk, hρ, hnd, hw⟩
  rw [hρ.eq]
  clear hρ
  repeat (first | refine byW ?_ | (refine byV ?_; intro w hw))
  refine W_cond rfl (fun h => ?_) (fun h => ?_)
  · have hkn : k < nm := by have := of_decide_eq_true h; omega
    obtain ⟨x, hx⟩ := get_lt (l := ms) (k := k) (by omega)
    repeat (first | refine byW ?_ | (refine byV ?_; intro w hw))
    letI hdm : Decidable (x ∈ r :: ms.take k) := Classical.propDecidable _
    refine L_y rfl rfl (v := .bool (decide (x ∈ r :: ms.take k))) ?_ ?_
    · by_cases hm : x ∈ r :: ms.take k
      · rw [decide_eq_true hm]
        exact y_lookup_some (P := Tryz.prog) (K := 3) (α := Int) (f := Value.bool) (i := 0) hw rfl rfl rfl (seen_some hm) false
      · rw [decide_eq_false hm]
        exact y_lookup_none (P := Tryz.prog) (K := 3) (α := Int) (f := Value.bool) (i := 0) hw rfl rfl rfl (seen_none hm) false
    have hx1 : (r :: ms)[k + 1]? = some x := hx
    have ht1 : (r :: ms).take (k + 1) = r :: ms.take k := rfl
    repeat (first | refine byW ?_ | (refine byV ?_; intro w hw))
    refine W_cond rfl (fun h2 => ?_) (fun h2 => ?_)
    · have hm : x ∈ r :: ms.take k := by simpa using h2
      rw [if_pos (decP_f (not_nodup_at hx1 (by rw [ht1]; exact hm)))]
      repeat (first | refine byW ?_ | (refine byV ?_; intro w hw))
      exact ⟨_, rfl, rfl, hw.drop⟩
    · have hm : x ∉ r :: ms.take k := by simpa using h2
      repeat (first | refine byW ?_ | (refine byV ?_; intro w hw))
      refine L_step rfl rfl (s_mapUpdate (P := Tryz.prog) (K := 3) (α := Int) (f := Value.bool) (i := 0) (v := true) hw rfl rfl rfl rfl fun w hw => ?_)
      rw [seen_set hm, List.cons_append, ← take_succ_of hx] at hw
      repeat (first | refine byW ?_ | (refine byV ?_; intro w hw))
      exact ⟨μ - 1, by omega, k + 1, by omega, ⟨rfl, rfl, rfl, rfl, trivial⟩, by rw [take_succ_of hx, ← List.cons_append]; exact nodup_snoc.2 ⟨hnd, hm⟩, hw⟩
  · have hkn : ¬ k < nm := by have := of_decide_eq_false h; omega
    rw [List.take_of_length_le (by omega)] at hnd
    rw [if_neg (by rw [decP_t hnd]; simp)]
    repeat (first | refine byW ?_ | (refine byV ?_; intro w hw))
    exact ⟨_, rfl, rfl, hw.drop⟩⟩
end Go.Proofs.YteiijmclobggjaaGreat
end
/- Trees: route.Validate. -/
section
open Go Mk
namespace Go.Proofs.YteiijmclobggjaaGreat
set_option maxHeartbeats 8000000
attribute [local irreducible] Calls
theorem seen_set_any {d : List Int} {x : Int} : ∃ d', aSet (seenL d) x true = seenL d' ∧ ∀ y, y ∈ d' ↔ y ∈ d ∨ y = x := by
  by_cases h : x ∈ d
  · refine ⟨d, ?_, fun y => ⟨.inl, fun hy => by rcases hy with hy | rfl; exact hy; exact h⟩⟩
    unfold aSet
    cases hi : aIx (seenL d) x with
    | none => have := seen_ix.2 h; rw [hi] at this; cases this
    | some i =>
      obtain ⟨v, hv⟩ := aIx_get hi
      obtain ⟨y, hy, he⟩ := List.mem_map.1 (List.mem_of_getElem? hv)
      cases he
      refine List.ext_getElem? fun k => ?_
      rw [List.getElem?_set]
      split
      · rename_i e; subst e
        split
        · exact hv.symm
        · rename_i hlt; exact absurd (List.getElem?_eq_some_iff.1 hv).1 hlt
      · rfl
  · exact ⟨d ++ [x], seen_set h, fun y => by simp⟩
def DoneAt (es : List Pl) (i : Nat) (x : Int) : Prop := ∃ (j : Nat) (a b : Pl), j + 1 ≤ i ∧ es[j]? = some a ∧ es[j + 1]? = some b ∧ a.1 ≠ b.1 ∧ a.1 = x
def ProtoP (r : Int) (es : List Pl) : Prop := ∀ (i : Nat) (e : Pl), es[i]? = some e → e.1 ∈ r :: (es.take i).map (·.2) ∧ ¬ DoneAt es i e.1
theorem done_step {es : List Pl} {k : Nat} {x y : Pl} (hx : es[k]? = some x) (hy : 0 < k → es[k - 1]? = some y) (z : Int) : DoneAt es k z ↔ DoneAt es (k - 1) z ∨ (0 < k ∧ y.1 ≠ x.1 ∧ y.1 = z) := by
  constructor
  · rintro ⟨j, a, b, h1, h2, h3, h4, h5⟩
    by_cases e : j + 1 = k
    · right
      have hj : j = k - 1 := by omega
      subst hj
      have h0 : 0 < k := by omega
      rw [hy h0] at h2; cases h2
      rw [e, hx] at h3; cases h3
      exact ⟨h0, h4, h5⟩
    · exact .inl ⟨j, a, b, by omega, h2, h3, h4, h5⟩
  · rintro (⟨j, a, b, h1, h2, h3, h4, h5⟩ | ⟨h0, h1, h2⟩)
    · exact ⟨j, a, b, by omega, h2, h3, h4, h5⟩
    · exact ⟨k - 1, y, x, by omega, hy h0, by rw [show k - 1 + 1 = k by omega]; exact hx, h1, h2⟩
def knownT (H : HwT) (e : Pl) : Bool := (findC H.Cores e.1).2 && (findC H.Cores e.2).2
noncomputable def treeErr (H : HwT) (r : Int) (es : List Pl) : Int :=
  if validS H = 0 then (if ((findC H.Cores r).2 && es.all (knownT H)) = true then (if decP (r :: es.map (·.2)).Nodup = true then (if decP (ProtoP r es) = true then 0 else 66) else 56) else 57) else validS H
instance pg_VTree {Γ : Gho} {u v : Value} {H : HwT} [hh : HwR Γ u H] {es : List Pl} [hr : SlC Γ v 2 (es.map plV)] [hsh : ShortL es] (r : Int) : PG Tryz.prog Γ 19 [u, .agg #[.int .i64 r, v]] (.int .i64 (treeErr H r es)) := ⟨fun S w hw => by
  have hh' := hh
  obtain ⟨a1, n1, c1, a2, n2, c2, a3, n3, c3, a4, n4, c4, a5, n5, c5, cs, rfl, -⟩ := hh.h
  have hrs := hr.h
  obtain ⟨am, nm, cm, rfl, hnm, hnmc, hcm⟩ := hr.h.shape
  simp only [List.length_map] at hnm
  have hms := hsh.h
  refine calls_of_W Tryz.func19 rfl rfl ?_
  repeat (first | refine byW ?_ | (refine byV ?_; intro w hw))
  refine lBox ?_
  intro b2 w hw
  refine lBox ?_
  intro b3 w hw
  have hw : Wd Γ (.blk b3 (.cells #[.int .i64 r, .slice am nm cm] 32) :: .blk b2 (.cells #[.string H.Name, .slice a1 n1 c1, .slice a2 n2 c2, .slice a3 n3 c3, .slice a4 n4 c4, .slice a5 n5 c5] 28) :: S) w := hw
  unfold treeErr
  repeat (first | refine byW ?_ | (refine byV ?_; intro w hw))
  refine W_cond rfl (fun h => ?_) (fun h => ?_)
  · have h : ¬ validS H = 0 := by simpa using h
    rw [if_neg h]
    repeat (first | refine byW ?_ | (refine byV ?_; intro w hw))
    exact ⟨_, rfl, rfl, hw.ds [0, 0]⟩
  have h : validS H = 0 := by simpa using h
  rw [if_pos h]
  clear h
  repeat (first | refine byW ?_ | (refine byV ?_; intro w hw))
  refine W_loop (fun μ ρ w => ∃ (k : Nat), μ + k = nm ∧ Has ρ [(2, .pointer (some ⟨b2, 0, none⟩)), (3, .pointer (some ⟨b3, 0, none⟩)), (6, .bool ((findC H.Cores r).2 && (es.take k).all (knownT H))), (33, .slice am nm cm), (34, .int .i64 nm), (35, .int .i64 k)] ∧ Wd Γ (.blk b3 (.cells #[.int .i64 r, .slice am nm cm] 32) :: .blk b2 (.cells #[.string H.Name, .slice a1 n1 c1, .slice a2 n2 c2, .slice a3 n3 c3, .slice a4 n4 c4, .slice a5 n5 c5] 28) :: S) w) nm ⟨0, by omega, ⟨rfl, rfl, by rw [List.take_zero, List.all_nil, Bool.and_true]; rfl, rfl, rfl, rfl, trivial⟩, hw⟩ ?_
  clear hw
  rintro μ ρ w ⟨k, hk, hρ, hw⟩
  rw [hρ.eq]
  clear hρ
  repeat (first | refine byW ?_ | (refine byV ?_; intro w hw))
  refine W_cond rfl (fun h => ?_) (fun h => ?_)
  · have hkn : k < nm := by have := of_decide_eq_true h; omega
    obtain ⟨x, hx⟩ := get_lt (l := es) (k := k) (by omega)
    repeat (first | refine byW ?_ | (refine byV ?_; intro w hw))
    refine lAlloc ?_
    intro b8 w hw
    refine lStore ?_
    intro w hw
    have hw : Wd Γ (.blk b8 (.cells (plV x).toArray 60) :: .blk b3 (.cells #[.int .i64 r, .slice am nm cm] 32) :: .blk b2 (.cells #[.string H.Name, .slice a1 n1 c1, .slice a2 n2 c2, .slice a3 n3 c3, .slice a4 n4 c4, .slice a5 n5 c5] 28) :: S) w := hw
    repeat (first | refine byW ?_ | (refine byV ?_; intro w hw))
    refine lAlloc ?_
    intro b9 w hw
    refine lStore ?_
    intro w hw
    repeat (first | refine byW ?_ | (refine byV ?_; intro w hw))
    refine lAlloc ?_
    intro b11 w hw
    refine lStore ?_
    intro w hw
    have hw : Wd Γ (.blk b3 (.cells #[.int .i64 r, .slice am nm cm] 32) :: .blk b2 (.cells #[.string H.Name, .slice a1 n1 c1, .slice a2 n2 c2, .slice a3 n3 c3, .slice a4 n4 c4, .slice a5 n5 c5] 28) :: S) w := hw.ds [0, 0, 0]
    repeat (first | refine byW ?_ | (refine byV ?_; intro w hw))
    refine ⟨μ - 1, by omega, k + 1, by omega, ⟨rfl, rfl, ?_, rfl, rfl, rfl, trivial⟩, hw⟩
    rw [take_succ_of hx, List.all_append, ← Bool.and_assoc]
    simp only [List.all_cons, List.all_nil, Bool.and_true]
    unfold knownT
    rw [← Bool.and_assoc]; rfl
  have hkn : ¬ k < nm := by have := of_decide_eq_false h; omega
  rw [List.take_of_length_le (by omega)]
  clear h hkn hk
  repeat (first | refine byW ?_ | (refine byV ?_; intro w hw))
  refine W_cond rfl (fun h => ?_) (fun h => ?_)
  · have h : (!((findC H.Cores r).2 && es.all (knownT H))) = true := h
    rw [if_neg (fun hh => by rw [hh] at h; cases h)]
    repeat (first | refine byW ?_ | (refine byV ?_; intro w hw))
    exact ⟨_, rfl, rfl, hw.ds [0, 0]⟩
  have h : (!((findC H.Cores r).2 && es.all (knownT H))) = false := h
  rw [if_pos (by cases hb : ((findC H.Cores r).2 && es.all (knownT H)) with | true => rfl | false => rw [hb] at h; cases h)]
  clear h
  repeat (first | refine byW ?_ | (refine byV ?_; intro w hw))
  refine L_step rfl rfl (s_makeMap (K := 3) (α := Int) (f := Value.bool) hw fun bm w hw => ?_)
  have hw := hw.ps [1]
  repeat (first | refine byW ?_ | (refine byV ?_; intro w hw))
  refine L_step rfl rfl (s_insert (s_mapUpdate (P := Tryz.prog) (K := 3) (α := Int) (f := Value.bool) (i := 1) (v := true) (a := r) hw rfl rfl rfl rfl fun w hw => ?_))
  rw [show ([] : List (Int × Bool)) = seenL ([] : List Int) from rfl, seen_set (by simp)] at hw
  have hw : Wd Γ (Res.mpT Tryz.prog 3 Value.bool bm (seenL (r :: (es.take 0).map (·.2))) :: .blk b3 (.cells #[.int .i64 r, .slice am nm cm] 32) :: .blk b2 (.cells #[.string H.Name, .slice a1 n1 c1, .slice a2 n2 c2, .slice a3 n3 c3, .slice a4 n4 c4, .slice a5 n5 c5] 28) :: S) w := hw.ps [1]
  repeat (first | refine byW ?_ | (refine byV ?_; intro w hw))
  refine W_loop (fun μ ρ w => ∃ (k : Nat), μ + k = nm ∧ Has ρ [(3, .pointer (some ⟨b3, 0, none⟩)), (13, .map (some bm)), (68, .slice am nm cm), (69, .int .i64 nm), (70, .int .i64 k)] ∧ (r :: (es.take k).map (·.2)).Nodup ∧ Wd Γ (Res.mpT Tryz.prog 3 Value.bool bm (seenL (r :: (es.take k).map (·.2))) :: .blk b3 (.cells #[.int .i64 r, .slice am nm cm] 32) :: .blk b2 (.cells #[.string H.Name, .slice a1 n1 c1, .slice a2 n2 c2, .slice a3 n3 c3, .slice a4 n4 c4, .slice a5 n5 c5] 28) :: S) w) nm ⟨0, by omega, ⟨rfl, rfl, rfl, rfl, rfl, trivial⟩, by simp, hw⟩ ?_
  clear hw
  rintro μ ρ w ⟨k, hk, hρ, hnd, hw⟩
  rw [hρ.eq]
  clear hρ
  repeat (first | refine byW ?_ | (refine byV ?_; intro w hw))
  refine W_cond rfl (fun h => ?_) (fun h => ?_)
  · have hkn : k < nm := by have := of_decide_eq_true h; omega
    obtain ⟨x, hx⟩ := get_lt (l := es) (k := k) (by omega)
    repeat (first | refine byW ?_ | (refine byV ?_; intro w hw))
    refine lAlloc ?_
    intro b15 w hw
    refine lStore ?_
    intro w hw
    have hw : Wd Γ (.blk b15 (.cells (plV x).toArray 60) :: Res.mpT Tryz.prog 3 Value.bool bm (seenL (r :: (es.take k).map (·.2))) :: .blk b3 (.cells #[.int .i64 r, .slice am nm cm] 32) :: .blk b2 (.cells #[.string H.Name, .slice a1 n1 c1, .slice a2 n2 c2, .slice a3 n3 c3, .slice a4 n4 c4, .slice a5 n5 c5] 28) :: S) w := hw
    repeat (first | refine byW ?_ | (refine byV ?_; intro w hw))
    letI hdm : Decidable (x.2 ∈ r :: (es.take k).map (·.2)) := Classical.propDecidable _
    refine L_y rfl rfl (v := .bool (decide (x.2 ∈ r :: (es.take k).map (·.2)))) ?_ ?_
    · by_cases hm : x.2 ∈ r :: (es.take k).map (·.2)
      · rw [decide_eq_true hm]
        exact y_lookup_some (P := Tryz.prog) (K := 3) (α := Int) (f := Value.bool) (i := 1) hw rfl rfl rfl (seen_some hm) false
      · rw [decide_eq_false hm]
        exact y_lookup_none (P := Tryz.prog) (K := 3) (α := Int) (f := Value.bool) (i := 1) hw rfl rfl rfl (seen_none hm) false
    have hx1 : (r :: es.map (·.2))[k + 1]? = some x.2 := by simp [hx]
    have ht1 : (r :: es.map (·.2)).take (k + 1) = r :: (es.take k).map (·.2) := by simp [List.map_take]
    have ht2 : r :: (es.take (k + 1)).map (·.2) = (r :: (es.take k).map (·.2)) ++ [x.2] := by rw [take_succ_of hx]; simp
    repeat (first | refine byW ?_ | (refine byV ?_; intro w hw))
    refine W_cond rfl (fun h2 => ?_) (fun h2 => ?_)
    · have hm : x.2 ∈ r :: (es.take k).map (·.2) := by simpa using h2
      rw [if_neg (by rw [decP_f (not_nodup_at hx1 (by rw [ht1]; exact hm))]; simp)]
      repeat (first | refine byW ?_ | (refine byV ?_; intro w hw))
      exact ⟨_, rfl, rfl, hw.ds [0, 0, 0, 0]⟩
    · have hm : x.2 ∉ r :: (es.take k).map (·.2) := by simpa using h2
      repeat (first | refine byW ?_ | (refine byV ?_; intro w hw))
      refine L_step rfl rfl (s_mapUpdate (P := Tryz.prog) (K := 3) (α := Int) (f := Value.bool) (i := 1) (v := true) hw rfl rfl rfl rfl fun w hw => ?_)
      rw [seen_set hm, ← ht2] at hw
      have hw : Wd Γ (Res.mpT Tryz.prog 3 Value.bool bm (seenL (r :: (es.take (k + 1)).map (·.2))) :: .blk b3 (.cells #[.int .i64 r, .slice am nm cm] 32) :: .blk b2 (.cells #[.string H.Name, .slice a1 n1 c1, .slice a2 n2 c2, .slice a3 n3 c3, .slice a4 n4 c4, .slice a5 n5 c5] 28) :: S) w := hw.drop
      repeat (first | refine byW ?_ | (refine byV ?_; intro w hw))
      exact ⟨μ - 1, by omega, k + 1, by omega, ⟨rfl, rfl, rfl, rfl, rfl, trivial⟩, by rw [ht2]; exact nodup_snoc.2 ⟨hnd, hm⟩, hw⟩
  have hkn : ¬ k < nm := by have := of_decide_eq_false h; omega
  rw [List.take_of_length_le (by omega)] at hnd
  rw [if_pos (decP_t hnd)]
  have hw : Wd Γ (.blk b3 (.cells #[.int .i64 r, .slice am nm cm] 32) :: .blk b2 (.cells #[.string H.Name, .slice a1 n1 c1, .slice a2 n2 c2, .slice a3 n3 c3, .slice a4 n4 c4, .slice a5 n5 c5] 28) :: S) w := hw.drop
  clear h hkn hk
  repeat (first | refine byW ?_ | (refine byV ?_; intro w hw))
  refine L_step rfl rfl (s_makeMap (K := 3) (α := Int) (f := Value.bool) hw fun bs w hw => ?_)
  have hw := hw.ps [1]
  repeat (first | refine byW ?_ | (refine byV ?_; intro w hw))
  refine L_step rfl rfl (s_insert (s_mapUpdate (P := Tryz.prog) (K := 3) (α := Int) (f := Value.bool) (i := 1) (v := true) (a := r) hw rfl rfl rfl rfl fun w hw => ?_))
  rw [show ([] : List (Int × Bool)) = seenL ([] : List Int) from rfl, seen_set (by simp)] at hw
  have hw : Wd Γ (Res.mpT Tryz.prog 3 Value.bool bs (seenL (r :: (es.take 0).map (·.2))) :: .blk b3 (.cells #[.int .i64 r, .slice am nm cm] 32) :: .blk b2 (.cells #[.string H.Name, .slice a1 n1 c1, .slice a2 n2 c2, .slice a3 n3 c3, .slice a4 n4 c4, .slice a5 n5 c5] 28) :: S) w := hw.ps [1]
  repeat (first | refine byW ?_ | (refine byV ?_; intro w hw))
  refine L_step rfl rfl (s_makeMap (K := 3) (α := Int) (f := Value.bool) hw fun bd w hw => ?_)
  have hw : Wd Γ (Res.mpT Tryz.prog 3 Value.bool bd (seenL ([] : List Int)) :: Res.mpT Tryz.prog 3 Value.bool bs (seenL (r :: (es.take 0).map (·.2))) :: .blk b3 (.cells #[.int .i64 r, .slice am nm cm] 32) :: .blk b2 (.cells #[.string H.Name, .slice a1 n1 c1, .slice a2 n2 c2, .slice a3 n3 c3, .slice a4 n4 c4, .slice a5 n5 c5] 28) :: S) w := hw
  repeat (first | refine byW ?_ | (refine byV ?_; intro w hw))
  refine W_loop (fun μ ρ w => ∃ (k : Nat) (d : List Int), μ + k = nm ∧ Has ρ [(3, .pointer (some ⟨b3, 0, none⟩)), (16, .map (some bs)), (17, .map (some bd)), (88, .slice am nm cm), (89, .int .i64 nm), (90, .int .i64 k)] ∧ (∀ y, y ∈ d ↔ DoneAt es (k - 1) y) ∧ (∀ i e, i < k → es[i]? = some e → e.1 ∈ r :: (es.take i).map (·.2) ∧ ¬ DoneAt es i e.1) ∧ Wd Γ (Res.mpT Tryz.prog 3 Value.bool bd (seenL d) :: Res.mpT Tryz.prog 3 Value.bool bs (seenL (r :: (es.take k).map (·.2))) :: .blk b3 (.cells #[.int .i64 r, .slice am nm cm] 32) :: .blk b2 (.cells #[.string H.Name, .slice a1 n1 c1, .slice a2 n2 c2, .slice a3 n3 c3, .slice a4 n4 c4, .slice a5 n5 c5] 28) :: S) w) nm ⟨0, [], by omega, ⟨rfl, rfl, rfl, rfl, rfl, rfl, trivial⟩, fun y => ⟨fun h => by simp at h, fun ⟨j, _, _, h, _⟩ => by omega⟩, fun i e h => by omega, hw⟩ ?_
  clear hw
  rintro μ ρ w ⟨k, d, hk, hρ, hd, hall, hw⟩
  rw [hρ.eq]
  clear hρ
  repeat (first | refine byW ?_ | (refine byV ?_; intro w hw))
  refine W_cond rfl (fun h => ?_) (fun h => ?_)
  · have hkn : k < nm := by have := of_decide_eq_true h; omega
    obtain ⟨x, hx⟩ := get_lt (l := es) (k := k) (by omega)
    obtain ⟨y, hy⟩ : ∃ y : Pl, 0 < k → es[((k : Int) - 1).toNat]? = some y := by
      by_cases h0 : 0 < k
      · obtain ⟨y, hy⟩ := get_lt (l := es) (k := ((k : Int) - 1).toNat) (by omega)
        exact ⟨y, fun _ => hy⟩
      · exact ⟨x, fun h => absurd h h0⟩
    repeat (first | refine byW ?_ | (refine byV ?_; intro w hw))
    refine lAlloc ?_
    intro b19 w hw
    repeat (first | refine byW ?_ | (refine byV ?_; intro w hw))
    refine lStore ?_
    intro w hw
    have hw : Wd Γ (.blk b19 (.cells (plV x).toArray 60) :: Res.mpT Tryz.prog 3 Value.bool bd (seenL d) :: Res.mpT Tryz.prog 3 Value.bool bs (seenL (r :: (es.take k).map (·.2))) :: .blk b3 (.cells #[.int .i64 r, .slice am nm cm] 32) :: .blk b2 (.cells #[.string H.Name, .slice a1 n1 c1, .slice a2 n2 c2, .slice a3 n3 c3, .slice a4 n4 c4, .slice a5 n5 c5] 28) :: S) w := hw
    repeat (first | refine byW ?_ | (refine byV ?_; intro w hw))
    refine W_quiet (by kernel_rfl) (by kernel_rfl) hw ?_
    repeat (first | refine Q_nil ?_ | (apply Q_plain; first | (apply Q_go; first | refine qP ?_ | refine qPg ?_) | refine qY ?_) | (apply Q_guarded; first | (apply Q_go; first | refine qPG ?_ | refine qPgG ?_) | refine qG ?_))
    apply Q_guarded
    refine qG ?_ (hy := fun hc w hw => by
      have h0 := hy (by have := of_decide_eq_true hc; omega)
      exact byPUG)
    repeat (first | refine Q_nil ?_ | (apply Q_plain; first | (apply Q_go; first | refine qP ?_ | refine qPg ?_) | refine qY ?_) | (apply Q_guarded; first | (apply Q_go; first | refine qPG ?_ | refine qPgG ?_) | refine qG ?_))
    intro w hw
    have hy1 : 0 < k → es[k - 1]? = some y := fun h0 => by rw [← hy h0, show ((k : Int) - 1).toNat = k - 1 by omega]
    refine W_cutT (fun ρ w => ∃ (d : List Int), Has ρ [(3, .pointer (some ⟨b3, 0, none⟩)), (16, .map (some bs)), (17, .map (some bd)), (19, .pointer (some ⟨b19, 0, none⟩)), (88, .slice am nm cm), (89, .int .i64 nm), (90, .int .i64 k)] ∧ (∀ y, y ∈ d ↔ DoneAt es k y) ∧ Wd Γ (.blk b19 (.cells (plV x).toArray 60) :: Res.mpT Tryz.prog 3 Value.bool bd (seenL d) :: Res.mpT Tryz.prog 3 Value.bool bs (seenL (r :: (es.take k).map (·.2))) :: .blk b3 (.cells #[.int .i64 r, .slice am nm cm] 32) :: .blk b2 (.cells #[.string H.Name, .slice a1 n1 c1, .slice a2 n2 c2, .slice a3 n3 c3, .slice a4 n4 c4, .slice a5 n5 c5] 28) :: S) w) ?_ ?_
    · refine W_cond rfl (fun h2 => ?_) (fun h2 => ?_)
      · have h2 : (decide ((k : Int) > 0) && decide (y.1 ≠ x.1)) = true := h2
        simp only [Bool.and_eq_true, decide_eq_true_eq] at h2
        have h0 : 0 < k := by omega
        have hy0 := hy h0
        obtain ⟨d', hd1, hd2⟩ := seen_set_any (d := d) (x := y.1)
        repeat (first | refine byW ?_ | (refine byV ?_; intro w hw))
        refine L_step rfl rfl (s_mapUpdate (P := Tryz.prog) (K := 3) (α := Int) (f := Value.bool) (i := 1) (v := true) (a := y.1) hw rfl rfl rfl rfl fun w hw => ?_)
        rw [hd1] at hw
        repeat (first | refine byW ?_ | (refine byV ?_; intro w hw))
        exact ⟨d', ⟨rfl, rfl, rfl, rfl, rfl, rfl, rfl, trivial⟩, fun z => by rw [hd2, done_step hx hy1, hd]; exact or_congr Iff.rfl ⟨fun e => ⟨h0, h2.2, e.symm⟩, fun e => e.2.2.symm⟩, hw⟩
      · have h2 : (decide ((k : Int) > 0) && decide (y.1 ≠ x.1)) = false := h2
        repeat (first | refine byW ?_ | (refine byV ?_; intro w hw))
        refine ⟨d, ⟨rfl, rfl, rfl, rfl, rfl, rfl, rfl, trivial⟩, fun z => ?_, hw⟩
        rw [done_step hx hy1, hd]
        refine ⟨.inl, fun hh => ?_⟩
        rcases hh with hh | ⟨e1, e2, -⟩
        · exact hh
        · have : (decide ((k : Int) > 0) && decide (y.1 ≠ x.1)) = true := by
            rw [decide_eq_true (show (k : Int) > 0 by omega), decide_eq_true e2]; rfl
          rw [this] at h2; cases h2
    · clear hw
      rintro ρ w ⟨d, hρ, hd, hw⟩
      rw [hρ.eq]
      clear hρ
      letI hdm : Decidable (x.1 ∈ r :: (es.take k).map (·.2)) := Classical.propDecidable _
      letI hdm2 : Decidable (x.1 ∈ d) := Classical.propDecidable _
      have ht2 : r :: (es.take (k + 1)).map (·.2) = (r :: (es.take k).map (·.2)) ++ [x.2] := by rw [take_succ_of hx]; simp
      repeat (first | refine byW ?_ | (refine byV ?_; intro w hw))
      refine L_y rfl rfl (v := .bool (decide (x.1 ∈ r :: (es.take k).map (·.2)))) ?_ ?_
      · by_cases hm : x.1 ∈ r :: (es.take k).map (·.2)
        · rw [decide_eq_true hm]
          exact y_lookup_some (P := Tryz.prog) (K := 3) (α := Int) (f := Value.bool) (i := 2) hw rfl rfl rfl (seen_some hm) false
        · rw [decide_eq_false hm]
          exact y_lookup_none (P := Tryz.prog) (K := 3) (α := Int) (f := Value.bool) (i := 2) hw rfl rfl rfl (seen_none hm) false
      repeat (first | refine byW ?_ | (refine byV ?_; intro w hw))
      refine lG (v := .bool (decide (x.1 ∈ d))) ?_ (hv := fun hc => by
        by_cases hm : x.1 ∈ d
        · rw [decide_eq_true hm]
          exact y_lookup_some (P := Tryz.prog) (K := 3) (α := Int) (f := Value.bool) (i := 1) hw byOP byOP rfl (seen_some hm) false
        · rw [decide_eq_false hm]
          exact y_lookup_none (P := Tryz.prog) (K := 3) (α := Int) (f := Value.bool) (i := 1) hw byOP byOP rfl (seen_none hm) false)
      repeat (first | refine byW ?_ | (refine byV ?_; intro w hw))
      refine W_cond rfl (fun h2 => ?_) (fun h2 => ?_)
      · have h2 : ((!decide (x.1 ∈ r :: (es.take k).map (·.2))) || decide (x.1 ∈ d)) = true := h2
        rw [if_neg (by
          rw [decP_f (p := ProtoP r es) (fun hP => by
            obtain ⟨p1, p2⟩ := hP k x hx
            rw [decide_eq_true p1, decide_eq_false (fun hh => p2 ((hd x.1).1 hh))] at h2
            cases h2)]
          simp)]
        repeat (first | refine byW ?_ | (refine byV ?_; intro w hw))
        exact ⟨_, rfl, rfl, hw.ds [0, 0, 0, 0, 0]⟩
      · have h2 : ((!decide (x.1 ∈ r :: (es.take k).map (·.2))) || decide (x.1 ∈ d)) = false := h2
        obtain ⟨q1, q2⟩ := Bool.or_eq_false_iff.1 h2
        have q1 : x.1 ∈ r :: (es.take k).map (·.2) := by
          by_cases hm : x.1 ∈ r :: (es.take k).map (·.2)
          · exact hm
          · rw [decide_eq_false hm] at q1; cases q1
        have q2 : x.1 ∉ d := of_decide_eq_false q2
        have hm : x.2 ∉ r :: (es.take k).map (·.2) := by
          have hs : (r :: (es.take (k + 1)).map (·.2)).Nodup := by
            rw [List.map_take]
            exact ((List.take_sublist _ _).cons_cons r).nodup hnd
          rw [ht2] at hs
          exact (nodup_snoc.1 hs).2
        repeat (first | refine byW ?_ | (refine byV ?_; intro w hw))
        refine L_step rfl rfl (s_mapUpdate (P := Tryz.prog) (K := 3) (α := Int) (f := Value.bool) (i := 2) (v := true) (a := x.2) hw rfl rfl rfl rfl fun w hw => ?_)
        rw [seen_set hm, ← ht2] at hw
        repeat (first | refine byW ?_ | (refine byV ?_; intro w hw))
        refine ⟨μ - 1, by omega, k + 1, d, by omega, ⟨rfl, rfl, rfl, rfl, rfl, rfl, trivial⟩, hd, fun i e hi he => ?_, hw.drop⟩
        by_cases ei : i = k
        · subst ei; rw [hx] at he; cases he
          exact ⟨q1, fun hh => q2 ((hd x.1).2 hh)⟩
        · exact hall i e (by omega) he
  · have hkn : ¬ k < nm := by have := of_decide_eq_false h; omega
    rw [if_pos (decP_t (p := ProtoP r es) (fun i e he => hall i e (by have := (List.getElem?_eq_some_iff.1 he).1; omega) he))]
    repeat (first | refine byW ?_ | (refine byV ?_; intro w hw))
    exact ⟨_, rfl, rfl, hw.ds [0, 0, 0, 0]⟩⟩
end Go.Proofs.YteiijmclobggjaaGreat
end
/- Cores of a valid description: their nodes are in range and connected; what Arrivals computes. -/
section
open Go Mk
namespace Go.Proofs.YteiijmclobggjaaGreat

theorem findC_mem {l : List CoreT} {id : Int} (h : (findC l id).2 = true) : (findC l id).1 ∈ l ∧ (findC l id).1.ID = id := by
  rcases coreIx_cases l id with ⟨-, h2, -⟩ | ⟨k, x, -, hx, he, h2⟩
  · rw [h2] at h; cases h
  · rw [h2]; exact ⟨List.mem_of_getElem? hx, he⟩
theorem core_node {H : HwT} (hv : validS H = 0) {c : CoreT} (hc : c ∈ H.Cores) : 0 ≤ c.Node ∧ c.Node < 64 := by
  obtain ⟨-, -, h3, -⟩ := valid_all hv
  unfold coresRB at h3
  simp only [Bool.and_eq_true] at h3
  have := List.all_eq_true.1 h3.1.1 c hc
  simp [coreRB, isNodeB] at this
  omega
theorem core_reach {H : HwT} (hv : validS H = 0) {c : CoreT} (hc : c ∈ H.Cores) : Reach H.Links ((usedN H).headD 0) c.Node := by
  obtain ⟨-, -, -, -, -, -, -, -, h9⟩ := valid_all hv
  have hP : ConnP H := by
    by_cases h : ConnP H
    · exact h
    · unfold connB at h9; rw [decP_f h] at h9; cases h9
  refine hP c.Node ?_
  unfold usedN
  exact List.mem_append_left _ (List.mem_append_left _ (List.mem_map.2 ⟨c, hc, rfl⟩))
theorem coreN_rng {H : HwT} (hv : validS H = 0) {x : Int} (h : (findC H.Cores x).2 = true) : 0 ≤ coreN H x ∧ coreN H x < 64 := core_node hv (findC_mem h).1
theorem far_le {H : HwT} (hv : validS H = 0) {x y : Int} (h : (findC H.Cores x).2 = true) (k : (findC H.Cores y).2 = true) : 0 ≤ farI H x y ∧ farI H x y ≤ 63000000 := by
  have hL := valid_links hv
  have hx := coreN_rng hv h
  refine ⟨?_, (dst_le hL hx).2⟩
  exact dstI_reach hL hx (core_reach hv (findC_mem h).1) (core_reach hv (findC_mem k).1)
/-- What Arrivals computes: the start of each core, how much each has sent. -/
def updI (f : Int → Int) (a v : Int) : Int → Int := fun x => if a = x then v else f x
def arrF (far : Int → Int → Int) (cost : Int) : (Int → Int) → (Int → Int) → List Pl → List Int
  | _, _, [] => []
  | st, sn, e :: es => (st e.1 + (sn e.1 + 1) * cost + far e.1 e.2) :: arrF far cost (updI st e.2 (st e.1 + (sn e.1 + 1) * cost + far e.1 e.2)) (updI sn e.1 (sn e.1 + 1)) es
theorem arrF_len (far : Int → Int → Int) (cost : Int) : ∀ (es : List Pl) (st sn : Int → Int), (arrF far cost st sn es).length = es.length
  | [], _, _ => rfl
  | e :: es, st, sn => by unfold arrF; rw [List.length_cons, arrF_len far cost es, List.length_cons]
/-- A map of numbers stands for a function that is 0 elsewhere. -/
def MapF (l : List (Int × Int)) (f : Int → Int) : Prop := ∀ x, (aGet l x).getD 0 = f x
theorem mapF_set {l : List (Int × Int)} {f : Int → Int} (h : MapF l f) (a v : Int) : MapF (aSet l a v) (updI f a v) := fun x => by
  rw [aGet_aSet]
  unfold updI
  split
  · rfl
  · exact h x
theorem y_lookupF {Γ : Gho} {S : List Res} {w : World} {ρ : Fr} {d : Option Tmp} {T ty ET : TypeId} {pos : String} {es : Array Edge} {g : Option (Nat × Bool)} {x y : Operand} {l : List (Int × Int)} {f : Int → Int} {a : Int} {bm i : Nat} [hM : TMap Tryz.prog T 3 ET] [hz : TZV Tryz.prog ET (.int .i64 0)] (hw : Wd Γ S w) (hl : MapF l f) (hi : S[i]? = some (Res.mpT Tryz.prog 3 (fun n : Int => Value.int .i64 n) bm l)) (hx : ev ρ x = .map (some bm)) (hy : ev ρ y = .int .i64 a) :
    Mk.Yields Tryz.prog ⟨d, .lookup T x y false, ty, pos, es, g⟩ ρ w (.int .i64 (f a)) := by
  have h := hl a
  cases hg : aGet l a with
  | some v =>
    rw [hg] at h
    rw [← h]
    exact y_lookup_some (f := fun n : Int => Value.int .i64 n) hw hx hy hi hg false
  | none =>
    rw [hg] at h
    rw [← h]
    exact y_lookup_none (f := fun n : Int => Value.int .i64 n) hw hx hy hi hg false
end Go.Proofs.YteiijmclobggjaaGreat
end
/- Completion, once Arrivals is known. -/
section
open Go Mk
namespace Go.Proofs.YteiijmclobggjaaGreat
set_option maxHeartbeats 8000000
attribute [local irreducible] Calls
theorem max_if (a b : Int) : max a b = if a < b then b else a := by
  split <;> omega
theorem completion_of {Γ : Gho} {u : Value} {H : HwT} [hh : HwR Γ u H] {r cost err : Int} {am : Option Addr} {nm cm : Nat} {l : List Int} (hlen : l.length ≤ 1000)
    (hA : ∀ S w, Wd Γ S w → Calls Tryz.prog 13 #[u, .agg #[.int .i64 r, .slice am nm cm], .int .i64 cost] w fun e w' => ∃ v, e = .returned (.tuple #[v, .int .i64 err]) ∧ Wd Γ (.own v 3 1 (intRows l) :: S) w') {S : List Res} {w : World} (hw : Wd Γ S w) :
    Calls Tryz.prog 15 #[u, .agg #[.int .i64 r, .slice am nm cm], .int .i64 cost] w fun e w' => e = .returned (.tuple #[.int .i64 (if err = 0 then l.foldl max 0 else 0), .int .i64 err]) ∧ Wd Γ S w' := by
  obtain ⟨a1, n1, c1, a2, n2, c2, a3, n3, c3, a4, n4, c4, a5, n5, c5, cs, rfl, -⟩ := hh.h
  refine calls_of_W Tryz.func15 rfl rfl ?_
  repeat (first | refine byW ?_ | (refine byV ?_; intro w hw))
  refine lBox ?_
  intro b3 w hw
  refine lBox ?_
  intro b4 w hw
  have hw : Wd Γ (.blk b4 (.cells #[.int .i64 r, .slice am nm cm] 32) :: .blk b3 (.cells #[.string H.Name, .slice a1 n1 c1, .slice a2 n2 c2, .slice a3 n3 c3, .slice a4 n4 c4, .slice a5 n5 c5] 28) :: S) w := hw
  repeat (first | refine byW ?_ | (refine byV ?_; intro w hw))
  refine lCall ((hA _ w hw).mono fun e w hq => ?_)
  obtain ⟨v, rfl, hw⟩ := hq
  obtain ⟨av, nv, cv, rfl, hnv, hncv, -⟩ := hw.own_shape (i := 0) rfl
  simp only [intRows, List.length_map] at hnv
  refine ⟨_, rfl, ?_⟩
  repeat (first | refine byW ?_ | (refine byV ?_; intro w hw))
  refine W_cond rfl (fun h => ?_) (fun h => ?_)
  · have h : ¬ err = 0 := by simpa using h
    rw [if_neg h]
    repeat (first | refine byW ?_ | (refine byV ?_; intro w hw))
    exact ⟨_, rfl, rfl, hw.ds [0, 0, 0]⟩
  have h : err = 0 := by simpa using h
  subst h
  rw [if_pos rfl]
  repeat (first | refine byW ?_ | (refine byV ?_; intro w hw))
  refine W_loop (fun μ ρ w => ∃ (k : Nat), μ + k = nv ∧ Has ρ [(10, .int .i64 ((l.take k).foldl max 0)), (23, .slice av nv cv), (24, .int .i64 nv), (25, .int .i64 k)] ∧ Wd Γ (.own (.slice av nv cv) 3 1 (intRows l) :: .blk b4 (.cells #[.int .i64 r, .slice am nm cm] 32) :: .blk b3 (.cells #[.string H.Name, .slice a1 n1 c1, .slice a2 n2 c2, .slice a3 n3 c3, .slice a4 n4 c4, .slice a5 n5 c5] 28) :: S) w) nv ⟨0, by omega, ⟨rfl, rfl, rfl, rfl, trivial⟩, hw⟩ ?_
  clear hw
  rintro μ ρ w ⟨k, hk, hρ, hw⟩
  rw [hρ.eq]
  clear hρ
  repeat (first | refine byW ?_ | (refine byV ?_; intro w hw))
  refine W_cond rfl (fun h => ?_) (fun h => ?_)
  · have hkn : k < nv := by have := of_decide_eq_true h; omega
    obtain ⟨x, hx⟩ := get_lt (l := l) (k := k) (by omega)
    have hst : (l.take (k + 1)).foldl max 0 = max ((l.take k).foldl max 0) x := by rw [take_succ_of hx, List.foldl_append]; rfl
    repeat (first | refine byW ?_ | (refine byV ?_; intro w hw))
    refine ⟨μ - 1, by omega, k + 1, by omega, ⟨?_, rfl, rfl, rfl, trivial⟩, hw⟩
    rw [hst, max_if]
    rfl
  · have hkn : ¬ k < nv := by have := of_decide_eq_false h; omega
    rw [List.take_of_length_le (by omega)]
    repeat (first | refine byW ?_ | (refine byV ?_; intro w hw))
    exact ⟨_, rfl, rfl, hw.ds [0, 0, 0]⟩
end Go.Proofs.YteiijmclobggjaaGreat
end
/- The distances between cores as one resource. -/
section
open Go Mk
namespace Go.Proofs.YteiijmclobggjaaGreat
set_option maxHeartbeats 8000000
attribute [local irreducible] Calls
/-- A 'between' in memory, with what it has computed so far. -/
noncomputable def btwP (bb : Nat) (H : HwT) (a1 : Option Addr) (n1 c1 : Nat) (a2 : Option Addr) (n2 c2 : Nat) (a3 : Option Addr) (n3 c3 : Nat) (a4 : Option Addr) (n4 c4 : Nat) (a5 : Option Addr) (n5 c5 : Nat) : Res :=
  Res.pk (fun q : Nat × List (Int × Value) => (q.2.map (·.1)).Nodup) (fun q => btwB bb H a1 n1 c1 a2 n2 c2 a3 n3 c3 a4 n4 c4 a5 n5 c5 q.1 :: adjM q.1 q.2 :: q.2.map (dsO H))
theorem coresP_any {Γ : Gho} {H : HwT} {a1 : Option Addr} {n1 c1 : Nat} {a2 : Option Addr} {n2 c2 : Nat} {a3 : Option Addr} {n3 c3 : Nat} {a4 : Option Addr} {n4 c4 : Nat} {a5 : Option Addr} {n5 c5 : Nat} [hh : HwR Γ (.agg #[.string H.Name, .slice a1 n1 c1, .slice a2 n2 c2, .slice a3 n3 c3, .slice a4 n4 c4, .slice a5 n5 c5]) H] (hL : LinksOk H.Links) {x y : Int} (hx : 0 ≤ coreN H x ∧ coreN H x < 64) (hy : 0 ≤ coreN H y ∧ coreN H y < 64) {bb : Nat} {S : List Res} {w : World} (hw : Wd Γ (btwP bb H a1 n1 c1 a2 n2 c2 a3 n3 c3 a4 n4 c4 a5 n5 c5 :: S) w) :
    Calls Tryz.prog 40 #[.pointer (some ⟨bb, 0, none⟩), .int .i64 x, .int .i64 y] w fun e w' => e = .returned (.int .i64 (farI H x y)) ∧ Wd Γ (btwP bb H a1 n1 c1 a2 n2 c2 a3 n3 c3 a4 n4 c4 a5 n5 c5 :: S) w' := by
  unfold btwP at hw
  obtain ⟨⟨bm, l⟩, hl, hw⟩ := Wd.unpack hw
  refine (cores_any (bm := bm) (l := l) hL hx hy hl (S := S) hw).mono fun e w' hq => ?_
  obtain ⟨h1, l', hl', hw'⟩ := hq
  unfold btwP
  exact ⟨h1, Wd.pack (bm, l') hl' hw'⟩
theorem btwP_new {Γ : Gho} {H : HwT} {a1 : Option Addr} {n1 c1 : Nat} {a2 : Option Addr} {n2 c2 : Nat} {a3 : Option Addr} {n3 c3 : Nat} {a4 : Option Addr} {n4 c4 : Nat} {a5 : Option Addr} {n5 c5 : Nat} {bb bm : Nat} {S : List Res} {w : World} (hw : Wd Γ (btwB bb H a1 n1 c1 a2 n2 c2 a3 n3 c3 a4 n4 c4 a5 n5 c5 bm :: adjM bm [] :: S) w) : Wd Γ (btwP bb H a1 n1 c1 a2 n2 c2 a3 n3 c3 a4 n4 c4 a5 n5 c5 :: S) w := by
  unfold btwP
  exact Wd.pack (bm, []) (by simp) hw
end Go.Proofs.YteiijmclobggjaaGreat
end
/- Insertion sort by swaps: its laws. -/
section
open Go Mk
namespace Mk
/-! Insertion sort by swaps, as slices.insertionSortCmpFunc does it. -/
section
variable {α : Type} {lt : α → α → Bool}
end
end Mk
end
/- The comparisons by which Normalize sorts. -/
section
open Go Mk
namespace Go.Proofs.YteiijmclobggjaaGreat
set_option maxHeartbeats 16000000
attribute [local irreducible] Calls
instance pc_cmpi (a b : Int) : PC Tryz.prog 34 [.int .i64 a, .int .i64 b] (.int .i64 (cI a b)) := ⟨fun w => by
  refine calls_of_W Tryz.func34 rfl rfl ?_
  repeat (first | refine byW ?_ | (refine byV ?_; intro w hw))
  refine W_cond_false rfl ?_
  repeat (first | refine byW ?_ | (refine byV ?_; intro w hw))
  refine W_cond_false rfl ?_
  repeat (first | refine byW ?_ | (refine byV ?_; intro w hw))
  refine W_cond rfl (fun h => ?_) (fun h => ?_)
  · repeat (first | refine byW ?_ | (refine byV ?_; intro w hw))
    exact ⟨_, rfl, ret_i rfl (by simp at h; simp [cI, h]), rfl⟩
  repeat (first | refine byW ?_ | (refine byV ?_; intro w hw))
  refine W_cond rfl (fun h2 => ?_) (fun h2 => ?_)
  · repeat (first | refine byW ?_ | (refine byV ?_; intro w hw))
    exact ⟨_, rfl, ret_i rfl (by simp at h h2; unfold cI; rw [if_neg (by omega), if_pos h2]), rfl⟩
  · repeat (first | refine byW ?_ | (refine byV ?_; intro w hw))
    exact ⟨_, rfl, ret_i rfl (by simp at h h2; unfold cI; rw [if_neg (by omega), if_neg (by omega)]), rfl⟩⟩
def orL : List Int → Int
  | [] => 0
  | x :: l => orI x (orL l)
theorem orI_r (x : Int) : orI x 0 = x := by unfold orI; split <;> simp [*]
/-- cmp.Or. -/
theorem Or_any {Γ : Gho} {S : List Res} {w : World} {v : Value} (xs : List Int) (hw : Wd Γ S w) (hr : RdS Γ S v 1 (xs.map fun x => [.int .i64 x])) :
    Calls Tryz.prog 33 #[v] w fun e w' => e = .returned (.int .i64 (orL xs)) ∧ Wd Γ S w' := by
  obtain ⟨a, n, c, rfl, hn, hnc, hc⟩ := hr.shape
  simp only [List.length_map] at hn
  refine calls_of_W Tryz.func33 rfl rfl ?_
  repeat (first | refine byW ?_ | (refine byV ?_; intro w hw))
  refine W_loop (fun μ ρ w => ∃ (k : Nat), μ + k = n ∧ Has ρ [(3, .int .i64 0), (6, .slice a n c), (7, .int .i64 n), (8, .int .i64 k)] ∧ orL xs = orL (xs.drop k) ∧ Wd Γ S w) n ⟨0, by omega, ⟨rfl, rfl, rfl, rfl, trivial⟩, rfl, hw⟩ ?_
  clear hw
  rintro μ ρ w ⟨k, hk, hρ, ho, hw⟩
  rw [hρ.eq]
  repeat (first | refine byW ?_ | (refine byV ?_; intro w hw))
  refine W_cond rfl (fun h => ?_) (fun h => ?_)
  · have hkn : k < n := by simpa using h
    obtain ⟨x, hx⟩ := get_lt (l := xs) (k := k) (by omega)
    have hd : xs.drop k = x :: xs.drop (k + 1) := by
      obtain ⟨h1, h2⟩ := List.getElem?_eq_some_iff.1 hx
      rw [← h2]; exact (List.drop_eq_getElem_cons h1)
    rw [hd] at ho
    repeat (first | refine byW ?_ | (refine byV ?_; intro w hw))
    refine W_cond rfl (fun h2 => ?_) (fun h2 => ?_)
    · repeat (first | refine byW ?_ | (refine byV ?_; intro w hw))
      have h2 : ¬ x = 0 := by simpa using h2
      refine ⟨_, rfl, ret_i rfl ?_, hw⟩
      rw [ho]; unfold orL orI; rw [if_neg h2]
    · repeat (first | refine byW ?_ | (refine byV ?_; intro w hw))
      have h2 : x = 0 := by simpa using h2
      refine ⟨μ - 1, by omega, k + 1, by omega, ⟨rfl, rfl, rfl, rfl, trivial⟩, ?_, hw⟩
      rw [ho]; show orI x _ = _; unfold orI; rw [if_pos h2]
  · have hkn : ¬ k < n := by simpa using h
    repeat (first | refine byW ?_ | (refine byV ?_; intro w hw))
    refine ⟨_, rfl, ret_i rfl ?_, hw⟩
    rw [ho, List.drop_eq_nil_of_le (by omega)]; rfl
end Go.Proofs.YteiijmclobggjaaGreat
end
/- The library's sort lies in this program: a row a fact (written by a program of mine; the kernel checks each). -/
section
open Go Mk
namespace Go.Proofs.YteiijmclobggjaaGreat
def lay_srt_ren : Go.Shelf.Ren := ⟨fun | 6 => 69 | 15 => 94 | 14 => 93 | 28 => 110 | 29 => 111 | 20 => 102 | 21 => 103 | 22 => 104 | 23 => 105 | 24 => 106 | 25 => 107 | 26 => 108 | 27 => 109 | 46 => 116 | 47 => 117 | 48 => 118 | 49 => 119 | 50 => 120 | 57 => 122 | n => n, fun | 22 => 29 | 24 => 3 | 25 => 50 | 3 => 3 | 39 => 99 | 0 => 0 | 53 => 155 | 55 => 63 | 4 => 4 | 46 => 148 | 45 => 147 | 50 => 152 | 5 => 5 | 9 => 9 | 66 => 158 | 70 => 162 | 76 => 164 | 77 => 119 | n => n, fun | n => n⟩
theorem lay_srt : Go.Proofs.SlLaysF.n6 Tryz.prog lay_srt_ren := {
  mixed := by kernel_rfl
  f6 := ⟨Tryz.f69.name, by decide, Tryz.func69.trans (congrArg some (by kernel_rfl))⟩
  f14 := ⟨Tryz.f93.name, by decide, Tryz.func93.trans (congrArg some (by kernel_rfl))⟩
  f15 := Tryz.func94.trans (congrArg some (by kernel_rfl))
  f20 := ⟨Tryz.f102.name, by decide, Tryz.func102.trans (congrArg some (by kernel_rfl))⟩
  f21 := ⟨Tryz.f103.name, by decide, Tryz.func103.trans (congrArg some (by kernel_rfl))⟩
  f22 := ⟨Tryz.f104.name, by decide, Tryz.func104.trans (congrArg some (by kernel_rfl))⟩
  f23 := ⟨Tryz.f105.name, by decide, Tryz.func105.trans (congrArg some (by kernel_rfl))⟩
  f24 := ⟨Tryz.f106.name, by decide, Tryz.func106.trans (congrArg some (by kernel_rfl))⟩
  f25 := ⟨Tryz.f107.name, by decide, Tryz.func107.trans (congrArg some (by kernel_rfl))⟩
  f26 := ⟨Tryz.f108.name, by decide, Tryz.func108.trans (congrArg some (by kernel_rfl))⟩
  f27 := ⟨Tryz.f109.name, by decide, Tryz.func109.trans (congrArg some (by kernel_rfl))⟩
  f28 := Tryz.func110.trans (congrArg some (by kernel_rfl))
  f29 := Tryz.func111.trans (congrArg some (by kernel_rfl))
  f46 := ⟨Tryz.f116.name, by decide, Tryz.func116.trans (congrArg some (by kernel_rfl))⟩
  f47 := Tryz.func117.trans (congrArg some (by kernel_rfl))
  f48 := Tryz.func118.trans (congrArg some (by kernel_rfl))
  f49 := ⟨Tryz.f119.name, by decide, Tryz.func119.trans (congrArg some (by kernel_rfl))⟩
  f50 := ⟨Tryz.f120.name, by decide, Tryz.func120.trans (congrArg some (by kernel_rfl))⟩
  f57 := ⟨Tryz.f122.name, by decide, Tryz.func122.trans (congrArg some (by kernel_rfl))⟩
  t0 := Tryz.underlying0
  a0 := Tryz.isAgg0
  z0 := Tryz.sizeOf0
  v0 := Tryz.zeroValue0
  t3 := Tryz.underlying3
  a3 := Tryz.isAgg3
  z3 := Tryz.sizeOf3
  v3 := Tryz.zeroValue3
  t4 := Tryz.underlying4
  a4 := Tryz.isAgg4
  z4 := Tryz.sizeOf4
  v4 := Tryz.zeroValue4
  t5 := Tryz.underlying5
  a5 := Tryz.isAgg5
  z5 := Tryz.sizeOf5
  v5 := Tryz.zeroValue5
  t9 := Tryz.underlying9
  a9 := Tryz.isAgg9
  z9 := Tryz.sizeOf9
  v9 := Tryz.zeroValue9
  t22 := Tryz.underlying29
  a22 := Tryz.isAgg29
  z22 := Tryz.sizeOf29
  v22 := Tryz.zeroValue29
  a24 := Tryz.isAgg3
  z24 := Tryz.sizeOf3
  t25 := Tryz.underlying50
  a25 := Tryz.isAgg50
  z25 := Tryz.sizeOf50
  v25 := Tryz.zeroValue50
  t39 := Tryz.underlying99
  a39 := Tryz.isAgg99
  z39 := Tryz.sizeOf99
  v39 := Tryz.zeroValue99
  t45 := Tryz.underlying147
  a45 := Tryz.isAgg147
  z45 := Tryz.sizeOf147
  v45 := Tryz.zeroValue147
  t46 := Tryz.underlying148
  a46 := Tryz.isAgg148
  z46 := Tryz.sizeOf148
  v46 := Tryz.zeroValue148
  t50 := Tryz.underlying152
  a50 := Tryz.isAgg152
  z50 := Tryz.sizeOf152
  v50 := Tryz.zeroValue152
  t53 := Tryz.underlying155
  a53 := Tryz.isAgg155
  z53 := Tryz.sizeOf155
  v53 := Tryz.zeroValue155
  t55 := Tryz.underlying63
  a55 := Tryz.isAgg63
  z55 := Tryz.sizeOf63
  v55 := Tryz.zeroValue63
  t66 := Tryz.underlying158
  a66 := Tryz.isAgg158
  z66 := Tryz.sizeOf158
  v66 := Tryz.zeroValue158
  t70 := Tryz.underlying162
  a70 := Tryz.isAgg162
  z70 := Tryz.sizeOf162
  v70 := Tryz.zeroValue162
  t76 := Tryz.underlying164
  a76 := Tryz.isAgg164
  z76 := Tryz.sizeOf164
  v76 := Tryz.zeroValue164
  t77 := Tryz.underlying119
  a77 := Tryz.isAgg119
  z77 := Tryz.sizeOf119
  v77 := Tryz.zeroValue119 }
end Go.Proofs.YteiijmclobggjaaGreat
end
/- The comparisons of height and Plan; the least of a group; children are sorted. -/
section
open Go Mk
namespace Go.Proofs.YteiijmclobggjaaGreat
set_option maxHeartbeats 8000000
attribute [local irreducible] Calls
theorem tcmp_or (t : Int → Int) (a b : Int) : orL [cI (t b) (t a), cI a b] = tcmp t a b := by
  unfold orL orL orL tcmp
  rw [orI_r]
/-- The comparison of height's children: tails are read from a map that stands meanwhile. -/
theorem height1_any {Γ : Gho} {S : List Res} {w0 : World} {i j b5 bt : Nat} {lt : List (Int × Int)} {tf : Int → Int} (hw0 : Wd Γ S w0) (hj : S[j]? = some (.blk b5 (.cells #[.map (some bt)] 92))) (hi : S[i]? = some (Res.mpT Tryz.prog 3 (fun n : Int => Value.int .i64 n) bt lt)) (hm : MapF lt tf) (a b : Int) :
    Calls Tryz.prog 70 #[.int .i64 a, .int .i64 b, .pointer (some ⟨b5, 0, none⟩)] w0 fun e w' => e = .returned (.int .i64 (tcmp tf a b)) ∧ ∃ S'', Wd (allG w0) S'' w' := by
  have hb5 : (allG w0).imm b5 = some (.cells #[.map (some bt)] 92) := hw0.at_blk hj
  obtain ⟨en, clock, hmp, -⟩ := hw0.at_mp hi
  have hw : Wd (allG w0) [] w0 := allG_wd w0
  refine calls_of_W Tryz.func70 rfl rfl ?_
  repeat (first | refine byW ?_ | (refine byV ?_; intro w hw))
  have hl5 : w0.cell? ⟨b5, 0, none⟩ = some (.map (some bt)) := cell_of (hw.imm b5 _ hb5) rfl
  refine lY (v := .map (some bt)) ?_ (hy := y_load1 (A := ⟨b5, 0, none⟩) rfl hl5)
  repeat (first | refine byW ?_ | (refine byV ?_; intro w hw))
  refine lY (v := .int .i64 (tf b)) ?_ (hy := y_lookupF hw0 hm hi rfl rfl)
  repeat (first | refine byW ?_ | (refine byV ?_; intro w hw))
  refine lY (v := .map (some bt)) ?_ (hy := y_load1 (A := ⟨b5, 0, none⟩) rfl hl5)
  repeat (first | refine byW ?_ | (refine byV ?_; intro w hw))
  refine lY (v := .int .i64 (tf a)) ?_ (hy := y_lookupF hw0 hm hi rfl rfl)
  repeat (first | refine byW ?_ | (refine byV ?_; intro w hw))
  refine lBuildSlice [[.int .i64 (cI (tf b) (tf a))], [.int .i64 (cI a b)]] ?_
  intro aq w hw
  refine lCall ((Or_any [cI (tf b) (tf a), cI a b] hw (RdS.own (i := 0) hw rfl)).mono fun e w hq => ?_)
  obtain ⟨rfl, hw⟩ := hq
  refine ⟨_, rfl, ?_⟩
  repeat (first | refine byW ?_ | (refine byV ?_; intro w hw))
  exact ⟨_, rfl, (by rw [← tcmp_or]; rfl), _, hw⟩

/-- Children are sorted by height. -/
theorem sortH_any {Γ : Gho} {S : List Res} {w : World} {i j b5 bt : Nat} {lt : List (Int × Int)} {tf : Int → Int} {v : Value} {xs : List Int} (hw : Wd Γ (.own v 3 1 (intRows xs) :: S) w) (hj : S[j]? = some (.blk b5 (.cells #[.map (some bt)] 92))) (hi : S[i]? = some (Res.mpT Tryz.prog 3 (fun n : Int => Value.int .i64 n) bt lt)) (hm : MapF lt tf) (hl : xs.length ≤ 1000) :
    Calls Tryz.prog 69 #[v, .func (.func 70) #[] #[.pointer (some ⟨b5, 0, none⟩)]] w fun e w' => e = .returned (.tuple #[]) ∧ Wd Γ (.own v 3 1 (intRows (tsort tf xs)) :: S) w' := by
  have := SortFunc_1 (f := fun n : Int => Value.int .i64 n) lay_srt (fun _ => rfl) (tcmp tf) 70 [.pointer (some ⟨b5, 0, none⟩)] xs v hw (i := 0) rfl (tcmp_swo tf) (tcmp_tot tf) (by omega) (fun dk w' hw' x y =>
    height1_any hw' (j := j + 1) (i := i + 1) hj hi hm x y)
  exact this

noncomputable def spdC (H : HwT) (x : Int) : Int := (findC H.Cores x).1.Speed
theorem plan1_any {Γ : Gho} {H : HwT} {a1 : Option Addr} {n1 c1 : Nat} {a2 : Option Addr} {n2 c2 : Nat} {a3 : Option Addr} {n3 c3 : Nat} {a4 : Option Addr} {n4 c4 : Nat} {a5 : Option Addr} {n5 c5 : Nat} [hh : HwR Γ (.agg #[.string H.Name, .slice a1 n1 c1, .slice a2 n2 c2, .slice a3 n3 c3, .slice a4 n4 c4, .slice a5 n5 c5]) H] {b4 : Nat} {S : List Res} {w : World} (a b : Int) (hw : Wd Γ (.blk b4 (.cells #[.string H.Name, .slice a1 n1 c1, .slice a2 n2 c2, .slice a3 n3 c3, .slice a4 n4 c4, .slice a5 n5 c5] 28) :: S) w) :
    Calls Tryz.prog 32 #[.int .i64 a, .int .i64 b, .pointer (some ⟨b4, 0, none⟩)] w fun e w' => e = .returned (.int .i64 (tcmp (spdC H) a b)) ∧ Wd Γ (.blk b4 (.cells #[.string H.Name, .slice a1 n1 c1, .slice a2 n2 c2, .slice a3 n3 c3, .slice a4 n4 c4, .slice a5 n5 c5] 28) :: S) w' := by
  have he : tcmp (spdC H) a b = orL [cI (findC H.Cores b).1.Speed (findC H.Cores a).1.Speed, cI a b] := (tcmp_or (spdC H) a b).symm
  rw [he]
  refine calls_of_W Tryz.func32 rfl rfl ?_
  repeat (first | refine byW ?_ | (refine byV ?_; intro w hw))
  refine lAlloc ?_
  intro b6 w hw
  refine lStore ?_
  intro w hw
  repeat (first | refine byW ?_ | (refine byV ?_; intro w hw))
  refine lAlloc ?_
  intro b8 w hw
  refine lStore ?_
  intro w hw
  have hw : Wd Γ (.blk b8 (.cells (enc (findC H.Cores b).1).toArray 53) :: .blk b6 (.cells (enc (findC H.Cores a).1).toArray 53) :: .blk b4 (.cells #[.string H.Name, .slice a1 n1 c1, .slice a2 n2 c2, .slice a3 n3 c3, .slice a4 n4 c4, .slice a5 n5 c5] 28) :: S) w := hw
  repeat (first | refine byW ?_ | (refine byV ?_; intro w hw))
  refine lBuildSlice [[.int .i64 (cI (findC H.Cores b).1.Speed (findC H.Cores a).1.Speed)], [.int .i64 (cI a b)]] ?_
  intro aq w hw
  refine lCall ((Or_any [cI (findC H.Cores b).1.Speed (findC H.Cores a).1.Speed, cI a b] hw (RdS.own (i := 0) hw rfl)).mono fun e w hq => ?_)
  obtain ⟨rfl, hw⟩ := hq
  refine ⟨_, rfl, ?_⟩
  repeat (first | refine byW ?_ | (refine byV ?_; intro w hw))
  exact ⟨_, rfl, rfl, hw.ds [0, 0, 0]⟩

def minF (t : Int → Int) : Int → List Int → Int
  | m, [] => m
  | m, x :: l => minF t (if tcmp t x m < 0 then x else m) l
theorem minF_any {Γ : Gho} {H : HwT} {a1 : Option Addr} {n1 c1 : Nat} {a2 : Option Addr} {n2 c2 : Nat} {a3 : Option Addr} {n3 c3 : Nat} {a4 : Option Addr} {n4 c4 : Nat} {a5 : Option Addr} {n5 c5 : Nat} [hh : HwR Γ (.agg #[.string H.Name, .slice a1 n1 c1, .slice a2 n2 c2, .slice a3 n3 c3, .slice a4 n4 c4, .slice a5 n5 c5]) H] {b4 : Nat} {S : List Res} {w : World} {v : Value} {x0 : Int} {xs : List Int} (hl : xs.length ≤ 1000) (hw : Wd Γ (.blk b4 (.cells #[.string H.Name, .slice a1 n1 c1, .slice a2 n2 c2, .slice a3 n3 c3, .slice a4 n4 c4, .slice a5 n5 c5] 28) :: .own v 3 1 (intRows (x0 :: xs)) :: S) w) :
    Calls Tryz.prog 31 #[v, .func (.func 32) #[] #[.pointer (some ⟨b4, 0, none⟩)]] w fun e w' => e = .returned (.int .i64 (minF (spdC H) x0 xs)) ∧ Wd Γ (.blk b4 (.cells #[.string H.Name, .slice a1 n1 c1, .slice a2 n2 c2, .slice a3 n3 c3, .slice a4 n4 c4, .slice a5 n5 c5] 28) :: .own v 3 1 (intRows (x0 :: xs)) :: S) w' := by
  obtain ⟨a, n, c, rfl, hn, hnc, hc⟩ := hw.own_shape (i := 1) rfl
  simp only [intRows, List.length_map, List.length_cons] at hn
  refine calls_of_W Tryz.func31 rfl rfl ?_
  repeat (first | refine byW ?_ | (refine byV ?_; intro w hw))
  refine W_cond_false (by exact congrArg Value.bool (decide_eq_false (by omega))) ?_
  have hx0 : (x0 :: xs)[0]? = some x0 := rfl
  repeat (first | refine byW ?_ | (refine byV ?_; intro w hw))
  refine W_loop (fun μ ρ w => ∃ (k : Nat) (m : Int), μ + k = n ∧ 1 ≤ k ∧ minF (spdC H) m ((x0 :: xs).drop k) = minF (spdC H) x0 xs ∧ Has ρ [(0, .slice a n c), (1, .func (.func 32) #[] #[.pointer (some ⟨b4, 0, none⟩)]), (5, .int .i64 m), (6, .int .i64 k)] ∧ Wd Γ (.blk b4 (.cells #[.string H.Name, .slice a1 n1 c1, .slice a2 n2 c2, .slice a3 n3 c3, .slice a4 n4 c4, .slice a5 n5 c5] 28) :: .own (.slice a n c) 3 1 (intRows (x0 :: xs)) :: S) w) (n - 1) ⟨1, x0, by omega, Nat.le_refl _, rfl, ⟨rfl, rfl, rfl, rfl, trivial⟩, hw⟩ ?_
  clear hw
  rintro μ ρ w ⟨k, m, hk, hk1, hF, hρ, hw⟩
  rw [hρ.eq]
  clear hρ
  repeat (first | refine byW ?_ | (refine byV ?_; intro w hw))
  refine W_cond rfl (fun h => ?_) (fun h => ?_)
  · have hkn : k < n := by have := of_decide_eq_true h; omega
    obtain ⟨x, hx⟩ := get_lt (l := x0 :: xs) (k := k) (by simp; omega)
    have hdr : (x0 :: xs).drop k = x :: (x0 :: xs).drop (k + 1) := by
      obtain ⟨q1, q2⟩ := List.getElem?_eq_some_iff.1 hx
      rw [List.drop_eq_getElem_cons q1, q2]
    rw [hdr] at hF
    repeat (first | refine byW ?_ | (refine byV ?_; intro w hw))
    refine lCallv (fst := []) (cap := [.pointer (some ⟨b4, 0, none⟩)]) (vs := [.int .i64 x, .int .i64 m]) ?_
    refine (plan1_any x m hw).mono ?_
    clear hw
    rintro e w ⟨rfl, hw⟩
    refine ⟨_, rfl, ?_⟩
    repeat (first | refine byW ?_ | (refine byV ?_; intro w hw))
    refine W_cond rfl (fun h2 => ?_) (fun h2 => ?_)
    · have h2 : tcmp (spdC H) x m < 0 := of_decide_eq_true h2
      have hF : minF (spdC H) x ((x0 :: xs).drop (k + 1)) = minF (spdC H) x0 xs := by rw [← hF]; conv => rhs; unfold minF
                                                                                      rw [if_pos h2]
      repeat (first | refine byW ?_ | (refine byV ?_; intro w hw))
      exact ⟨μ - 1, by omega, k + 1, x, by omega, by omega, hF, ⟨rfl, rfl, rfl, rfl, trivial⟩, hw⟩
    · have h2 : ¬ tcmp (spdC H) x m < 0 := of_decide_eq_false h2
      have hF : minF (spdC H) m ((x0 :: xs).drop (k + 1)) = minF (spdC H) x0 xs := by rw [← hF]; conv => rhs; unfold minF
                                                                                      rw [if_neg h2]
      repeat (first | refine byW ?_ | (refine byV ?_; intro w hw))
      exact ⟨μ - 1, by omega, k + 1, m, by omega, by omega, hF, ⟨rfl, rfl, rfl, rfl, trivial⟩, hw⟩
  · have hkn : ¬ k < n := by have := of_decide_eq_false h; omega
    rw [List.drop_eq_nil_of_le (by simp; omega)] at hF
    have hF : m = minF (spdC H) x0 xs := hF
    repeat (first | refine byW ?_ | (refine byV ?_; intro w hw))
    exact ⟨_, rfl, (by rw [← hF]; rfl), hw⟩
end Go.Proofs.YteiijmclobggjaaGreat
end
/- What Plan computes, in plain words: groups by node, forwarders, children. -/
section
open Go Mk
namespace Go.Proofs.YteiijmclobggjaaGreat

noncomputable def grpL (H : HwT) (ms : List Int) (n : Int) : List Int := ms.filter fun x => decide (coreN H x = n)
def addI (N : Int → List Int) (a : Int) (xs : List Int) : Int → List Int := fun x => if a = x then N x ++ xs else N x
theorem addI_addI (N : Int → List Int) (a : Int) (xs ys : List Int) : addI (addI N a xs) a ys = addI N a (xs ++ ys) := by
  funext x; unfold addI; by_cases h : a = x <;> simp [h]
theorem addI_nil (N : Int → List Int) (a : Int) : addI N a [] = N := by
  funext x; unfold addI; simp
/-- The forwarder of a group. -/
noncomputable def fwdL (H : HwT) : List Int → Int
  | [] => 0
  | x :: l => minF (spdC H) x l
theorem minF_mem {t : Int → Int} : ∀ {l : List Int} {m : Int}, minF t m l = m ∨ minF t m l ∈ l
  | [], _ => .inl rfl
  | x :: l, m => by
    unfold minF
    rcases minF_mem (t := t) (l := l) (m := if tcmp t x m < 0 then x else m) with h | h
    · by_cases e : tcmp t x m < 0
      · rw [if_pos e] at h ⊢; exact .inr (by rw [h]; simp)
      · rw [if_neg e] at h ⊢; exact .inl h
    · exact .inr (by simp [h])
theorem fwdL_mem {H : HwT} {l : List Int} (h : l ≠ []) : fwdL H l ∈ l := by
  cases l with
  | nil => exact absurd rfl h
  | cons x l =>
    show minF (spdC H) x l ∈ x :: l
    rcases minF_mem (t := spdC H) (l := l) (m := x) with h | h
    · rw [h]; simp
    · simp [h]
theorem grpL_mem {H : HwT} {ms : List Int} {n x : Int} : x ∈ grpL H ms n ↔ x ∈ ms ∧ coreN H x = n := by
  unfold grpL; simp
theorem grpL_snoc {H : HwT} {ms : List Int} {k : Nat} {x : Int} (h : ms[k]? = some x) : addI (grpL H (ms.take k)) (coreN H x) [x] = grpL H (ms.take (k + 1)) := by
  funext n
  rw [take_succ_of h]
  unfold addI grpL
  rw [List.filter_append]
  by_cases e : coreN H x = n
  · simp [e]
  · simp [e]
theorem grpL_len {H : HwT} {ms : List Int} {n : Int} : (grpL H ms n).length ≤ ms.length := List.length_filter_le _ _

section
variable (H : HwT) (r : Int) (ms : List Int)
/-- What the root is given at a node. -/
noncomputable def rootAt (n : Int) : List Int := if n = coreN H r ∨ grpL H ms n = [] then grpL H ms n else [fwdL H (grpL H ms n)]
noncomputable def isFwd (x : Int) : Bool := decide (coreN H x ≠ coreN H r ∧ x ∈ ms ∧ x = fwdL H (grpL H ms (coreN H x)))
/-- The children behind the first k nodes. -/
noncomputable def chK (k : Nat) (x : Int) : List Int := if x = r then (List.range k).flatMap (fun i : Nat => rootAt H r ms (i : Int)) else if isFwd H r ms x = true ∧ 0 ≤ coreN H x ∧ coreN H x < (k : Int) then (grpL H ms (coreN H x)).filter (fun y => decide (y ≠ x)) else []
noncomputable def chP (x : Int) : List Int := chK H r ms 64 x
end
section
variable {H : HwT} {r : Int} {ms : List Int}
theorem chK_zero : chK H r ms 0 = fun _ => [] := by
  funext x
  unfold chK
  split
  · rfl
  · rw [if_neg (by omega)]
theorem chK_succ {k : Nat} (hr : r ∉ ms) : chK H r ms (k + 1) = if (k : Int) = coreN H r ∨ grpL H ms (k : Int) = [] then addI (chK H r ms k) r (grpL H ms (k : Int)) else addI (addI (chK H r ms k) r [fwdL H (grpL H ms (k : Int))]) (fwdL H (grpL H ms (k : Int))) ((grpL H ms (k : Int)).filter (fun y => decide (y ≠ fwdL H (grpL H ms (k : Int))))) := by
  funext x
  have hroot : ∀ g : List Int, rootAt H r ms (k : Int) = g → chK H r ms (k + 1) r = chK H r ms k r ++ g := fun g hg => by
    unfold chK
    rw [if_pos rfl, if_pos rfl, List.range_succ, List.flatMap_append]
    simp [hg]
  by_cases hc : (k : Int) = coreN H r ∨ grpL H ms (k : Int) = []
  · rw [if_pos hc]
    by_cases hx : x = r
    · subst hx
      rw [hroot (grpL H ms (k : Int)) (by unfold rootAt; rw [if_pos hc])]
      unfold addI; rw [if_pos rfl]
    · have : addI (chK H r ms k) r (grpL H ms (k : Int)) x = chK H r ms k x := by unfold addI; rw [if_neg (Ne.symm hx)]
      rw [this]
      unfold chK
      rw [if_neg hx, if_neg hx]
      by_cases hf : isFwd H r ms x = true ∧ 0 ≤ coreN H x ∧ coreN H x < (k : Int)
      · rw [if_pos hf, if_pos ⟨hf.1, hf.2.1, by omega⟩]
      · rw [if_neg hf, if_neg]
        rintro ⟨h1, h2, h3⟩
        have h4 : coreN H x = (k : Int) := by
          have : ¬ coreN H x < (k : Int) := fun h => hf ⟨h1, h2, h⟩
          omega
        unfold isFwd at h1
        obtain ⟨e1, e2, -⟩ := of_decide_eq_true h1
        rcases hc with hc | hc
        · exact e1 (by rw [h4, hc])
        · have : x ∈ grpL H ms (k : Int) := grpL_mem.2 ⟨e2, h4⟩
          rw [hc] at this; simp at this
  · rw [if_neg hc]
    have hne : grpL H ms (k : Int) ≠ [] := fun h => hc (.inr h)
    have hfm := fwdL_mem (H := H) hne
    have hfm2 := grpL_mem.1 hfm
    have hfr : fwdL H (grpL H ms (k : Int)) ≠ r := fun e => hr (e ▸ hfm2.1)
    have hra : rootAt H r ms (k : Int) = [fwdL H (grpL H ms (k : Int))] := by unfold rootAt; rw [if_neg hc]
    generalize hfe : fwdL H (grpL H ms (k : Int)) = f at *
    by_cases hx : x = r
    · subst hx
      rw [hroot _ hra]
      unfold addI
      rw [if_neg hfr, if_pos rfl]
    · by_cases hxf : x = f
      · subst hxf
        have e1 : addI (addI (chK H r ms k) r [x]) x ((grpL H ms (k : Int)).filter (fun y => decide (y ≠ x))) x = chK H r ms k x ++ (grpL H ms (k : Int)).filter (fun y => decide (y ≠ x)) := by
          unfold addI; rw [if_pos rfl, if_neg (Ne.symm hx)]
        have e2 : chK H r ms k x = [] := by
          unfold chK
          rw [if_neg hx, if_neg (by rw [hfm2.2]; omega)]
        have e3 : chK H r ms (k + 1) x = (grpL H ms (k : Int)).filter (fun y => decide (y ≠ x)) := by
          have hf : isFwd H r ms x = true := by
            unfold isFwd
            refine decide_eq_true ⟨by rw [hfm2.2]; exact fun e => hc (.inl e), hfm2.1, ?_⟩
            rw [hfm2.2]; exact hfe.symm
          unfold chK
          rw [if_neg hx, if_pos ⟨hf, by rw [hfm2.2]; omega, by rw [hfm2.2]; omega⟩, hfm2.2]
        rw [e1, e2, e3, List.nil_append]
      · have e1 : addI (addI (chK H r ms k) r [f]) f ((grpL H ms (k : Int)).filter (fun y => decide (y ≠ f))) x = chK H r ms k x := by
          unfold addI; rw [if_neg (Ne.symm hxf), if_neg (Ne.symm hx)]
        rw [e1]
        unfold chK
        rw [if_neg hx, if_neg hx]
        by_cases hf : isFwd H r ms x = true ∧ 0 ≤ coreN H x ∧ coreN H x < (k : Int)
        · rw [if_pos hf, if_pos ⟨hf.1, hf.2.1, by omega⟩]
        · rw [if_neg hf, if_neg]
          rintro ⟨h1, h2, h3⟩
          have h4 : coreN H x = (k : Int) := by
            have : ¬ coreN H x < (k : Int) := fun h => hf ⟨h1, h2, h⟩
            omega
          unfold isFwd at h1
          obtain ⟨-, -, e3⟩ := of_decide_eq_true h1
          rw [h4, hfe] at e3
          exact hxf e3

/-! ### the tree -/
theorem chP_root : chP H r ms r = (List.range 64).flatMap (fun i : Nat => rootAt H r ms (i : Int)) := by
  unfold chP chK; rw [if_pos rfl]
theorem chP_mem {a b : Int} (h : b ∈ chP H r ms a) : b ∈ ms := by
  unfold chP chK at h
  by_cases e : a = r
  · rw [if_pos e] at h
    obtain ⟨i, -, hi⟩ := List.mem_flatMap.1 h
    unfold rootAt at hi
    by_cases c : (i : Int) = coreN H r ∨ grpL H ms (i : Int) = []
    · rw [if_pos c] at hi; exact (grpL_mem.1 hi).1
    · rw [if_neg c] at hi
      rw [List.mem_singleton.1 hi]
      exact (grpL_mem.1 (fwdL_mem fun e => c (.inr e))).1
  · rw [if_neg e] at h
    split at h
    · exact (grpL_mem.1 (List.mem_filter.1 h).1).1
    · simp at h
theorem chP_other {a b : Int} (e : a ≠ r) (h : b ∈ chP H r ms a) : isFwd H r ms a = true ∧ 0 ≤ coreN H a ∧ coreN H a < 64 ∧ coreN H b = coreN H a ∧ b ≠ a := by
  unfold chP chK at h
  rw [if_neg e] at h
  split at h
  · rename_i hf
    obtain ⟨h1, h2⟩ := List.mem_filter.1 h
    exact ⟨hf.1, hf.2.1, hf.2.2, (grpL_mem.1 h1).2, of_decide_eq_true h2⟩
  · simp at h
theorem chP_leaf {a b : Int} (e : a ≠ r) (hr : r ∉ ms) (h : b ∈ chP H r ms a) : chP H r ms b = [] := by
  obtain ⟨h1, -, -, h2, h3⟩ := chP_other e h
  have hb := chP_mem h
  have hbr : b ≠ r := fun e => hr (e ▸ hb)
  refine List.eq_nil_iff_forall_not_mem.2 fun c hc => ?_
  obtain ⟨k1, -, -, k2, k3⟩ := chP_other hbr hc
  unfold isFwd at h1 k1
  obtain ⟨-, -, e1⟩ := of_decide_eq_true h1
  obtain ⟨-, -, e2⟩ := of_decide_eq_true k1
  rw [h2] at e2
  exact h3 (e2.trans e1.symm)
theorem chP_dep (hr : r ∉ ms) : Dep (chP H r ms) 3 r := by
  intro a ha b hb
  have har : a ≠ r := fun e => hr (e ▸ chP_mem ha)
  intro c hc
  rw [chP_leaf har hr hb] at hc
  simp at hc
theorem chP_rch {a b : Int} (h : Rch (chP H r ms) a b) : b = a ∨ b ∈ ms := by
  induction h with
  | refl => exact .inl rfl
  | step hm _ ih =>
    rcases ih with rfl | ih
    · exact .inr (chP_mem hm)
    · exact .inr ih
theorem rootAt_len {n : Int} : (rootAt H r ms n).length ≤ (grpL H ms n).length := by
  unfold rootAt
  split
  · exact Nat.le_refl _
  · rename_i h
    have : grpL H ms n ≠ [] := fun e => h (.inr e)
    have := List.length_pos_iff.2 this
    rw [List.length_singleton]; exact this
theorem grp_sum (k : Nat) : ((List.range k).flatMap (fun i : Nat => grpL H ms (i : Int))).length ≤ ms.length := by
  have h : ∀ l : List Int, ((List.range k).flatMap (fun i : Nat => l.filter fun x => decide (coreN H x = (i : Int)))).length ≤ l.length := by
    intro l
    induction l with
    | nil =>
      have : ((List.range k).flatMap fun i : Nat => ([] : List Int).filter fun x => decide (coreN H x = (i : Int))) = [] := List.flatMap_eq_nil_iff.2 fun _ _ => rfl
      rw [this]; simp
    | cons x l ih =>
      simp only [List.length_flatMap] at ih ⊢
      have : ∀ k : Nat, ((List.range k).map fun i : Nat => ((x :: l).filter fun x => decide (coreN H x = (i : Int))).length).sum ≤ ((List.range k).map fun i : Nat => (l.filter fun x => decide (coreN H x = (i : Int))).length).sum + (if 0 ≤ coreN H x ∧ coreN H x < (k : Int) then 1 else 0) := by
        intro k
        induction k with
        | zero => simp
        | succ k ihk =>
          rw [List.range_succ, List.map_append, List.map_append, List.sum_append, List.sum_append]
          simp only [List.map_cons, List.map_nil, List.sum_cons, List.sum_nil, Nat.add_zero]
          by_cases e : coreN H x = (k : Int)
          · rw [List.filter_cons_of_pos (by simpa using e), List.length_cons, if_pos (by omega)]
            rw [if_neg (by omega)] at ihk
            omega
          · rw [List.filter_cons_of_neg (by simpa using e)]
            by_cases c : 0 ≤ coreN H x ∧ coreN H x < (k : Int)
            · rw [if_pos c] at ihk; rw [if_pos (by omega)]; omega
            · rw [if_neg c] at ihk; rw [if_neg (by omega)]; omega
      have := this k
      rw [List.length_cons]
      split at this <;> omega
  exact h ms
theorem chK_len {k : Nat} {x : Int} : (chK H r ms k x).length ≤ ms.length := by
  unfold chK
  split
  · refine Nat.le_trans ?_ (grp_sum (H := H) k)
    rw [List.length_flatMap, List.length_flatMap]
    generalize List.range k = rk
    induction rk with
    | nil => simp
    | cons i rk ih =>
      simp only [List.map_cons, List.sum_cons]
      have := rootAt_len (H := H) (r := r) (ms := ms) (n := (i : Int))
      omega
  · split
    · exact Nat.le_trans (List.length_filter_le _ _) grpL_len
    · simp
/-- The tree, and the errors that come ahead of it. -/
noncomputable def planE (H : HwT) (r : Int) (ms : List Int) (cost : Int) : List Pl := (r :: srt (farI H) cost (chP H r ms) r).flatMap fun f => (srt (farI H) cost (chP H r ms) f).map fun t => (f, t)
noncomputable def planErr (H : HwT) (r : Int) (ms : List Int) (cost : Int) : Int := if validS H ≠ 0 then validS H else if memErr H r ms ≠ 0 then memErr H r ms else if cost < 0 ∨ 1000000 < cost then 6 else 0
noncomputable def planS (H : HwT) (r : Int) (ms : List Int) (cost : Int) : Int × List Pl := if planErr H r ms cost = 0 then (r, planE H r ms cost) else (0, [])
end
end Go.Proofs.YteiijmclobggjaaGreat
end
