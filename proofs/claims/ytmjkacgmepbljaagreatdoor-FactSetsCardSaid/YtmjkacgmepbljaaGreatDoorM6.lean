/- Texts of this proof, one behind another. -/
import Derived.Test.YtmjkacgmepbljaaGreatDoorM5
set_option linter.unusedVariables false
set_option linter.unusedSimpArgs false
/- The reference's set is the set; facts are copied. -/
section
open Go Mk
namespace Go.Proofs.YtmjkacgmepbljaaGreatDoor
set_option maxHeartbeats 16000000
attribute [local irreducible] Calls cFact

theorem addK_spec (fs : List FactH) (f : FactH) : ∀ k, k ≤ fs.length → (∀ j x, addK fs f k ≤ j → j < k → fs[j]? = some x → 0 < cFact x.fact f.fact) ∧ (∀ m x, addK fs f k = m + 1 → fs[m]? = some x → ¬ 0 < cFact x.fact f.fact)
  | 0, _ => ⟨fun j x h1 h2 _ => by omega, fun m x h => by cases h⟩
  | k + 1, hk => by
    obtain ⟨x, hx⟩ := get_lt (l := fs) (k := k) (by omega)
    by_cases h : 0 < cFact x.fact f.fact
    · have e : addK fs f (k + 1) = addK fs f k := by
        conv => lhs; unfold addK
        rw [hx]; exact if_pos h
      obtain ⟨h1, h2⟩ := addK_spec fs f k (by omega)
      rw [e]
      refine ⟨fun j y hj hjk hy => ?_, h2⟩
      by_cases e2 : j = k
      · subst e2; rw [hx] at hy; cases hy; exact h
      · exact h1 j y hj (by omega) hy
    · have e : addK fs f (k + 1) = k + 1 := by
        conv => lhs; unfold addK
        rw [hx]; exact if_neg h
      rw [e]
      refine ⟨fun j y hj hjk _ => by omega, fun m y hm hy => ?_⟩
      have : m = k := by omega
      subst this
      rw [hx] at hy; cases hy; exact h
theorem facts_app {a b : List FactH} : facts (a ++ b) = facts a ++ facts b := by unfold facts; rw [List.map_append]
theorem facts_mem {fs : List FactH} {x : Fact} : x ∈ facts fs ↔ ∃ f ∈ fs, f.fact = x := by unfold facts; exact List.mem_map
theorem addF_set {fs : List FactH} {f : FactH} (ha : (facts fs).Pairwise fun a b => cFact a b = -1) : SetOf cFact (facts fs ++ [f.fact]) (facts (addF fs f)) := by
  obtain ⟨h1, h2⟩ := addK_spec fs f fs.length (Nat.le_refl _)
  have hgt : ∀ {x : FactH}, 0 < cFact x.fact f.fact → cFact f.fact x.fact = -1 := fun {x} h => by
    rw [cFact_ord.anti]
    rcases cFact_ord.rng x.fact f.fact with r | r | r <;> omega
  have hK := addK_le fs f fs.length
  unfold addF
  generalize addK fs f fs.length = k at *
  cases k with
  | zero =>
    refine ⟨?_, fun x => ?_⟩
    · show (f.fact :: facts fs).Pairwise _
      refine List.pairwise_cons.2 ⟨fun y hy => ?_, ha⟩
      obtain ⟨z, hz, rfl⟩ := facts_mem.1 hy
      obtain ⟨j, hj⟩ := List.mem_iff_getElem?.1 hz
      exact hgt (h1 j z (Nat.zero_le _) (List.getElem?_eq_some_iff.1 hj).1 hj)
    · show x ∈ f.fact :: facts fs ↔ _
      rw [List.mem_cons, List.mem_append, List.mem_singleton, or_comm]
  | succ k =>
    obtain ⟨y, hy⟩ := get_lt (l := fs) (k := k) (by omega)
    have hny := h2 k y rfl hy
    simp only [hy]
    by_cases e : cFact y.fact f.fact = 0
    · rw [if_pos e]
      have e2 := cFact_ord.eq0 e
      refine ⟨ha, fun x => ?_⟩
      rw [List.mem_append, List.mem_singleton]
      refine ⟨fun h => .inl h, fun h => h.elim id fun q => ?_⟩
      rw [q, ← e2]
      exact facts_mem.2 ⟨y, List.mem_of_getElem? hy, rfl⟩
    · rw [if_neg e]
      have hyl : cFact y.fact f.fact = -1 := by rcases cFact_ord.rng y.fact f.fact with r | r | r <;> omega
      have hsplit : facts fs = facts (fs.take (k + 1)) ++ facts (fs.drop (k + 1)) := by rw [← facts_app, List.take_append_drop]
      rw [hsplit] at ha
      obtain ⟨p1, p2, p3⟩ := List.pairwise_append.1 ha
      have hye : facts (fs.take (k + 1)) = facts (fs.take k) ++ [y.fact] := by rw [List.take_add_one, hy, facts_app]; rfl
      refine ⟨?_, fun x => ?_⟩
      · rw [facts_app]
        show (facts (fs.take (k + 1)) ++ f.fact :: facts (fs.drop (k + 1))).Pairwise _
        refine List.pairwise_append.2 ⟨p1, List.pairwise_cons.2 ⟨fun z hz => ?_, p2⟩, fun a hA b hB => ?_⟩
        · obtain ⟨z', hz', rfl⟩ := facts_mem.1 hz
          obtain ⟨j, hj⟩ := List.mem_iff_getElem?.1 hz'
          rw [List.getElem?_drop] at hj
          exact hgt (h1 _ z' (by omega) (List.getElem?_eq_some_iff.1 hj).1 hj)
        · rcases List.mem_cons.1 hB with q | q
          · rw [q]
            rw [hye] at hA p1
            rcases List.mem_append.1 hA with r | r
            · exact cFact_ord.trans ((List.pairwise_append.1 p1).2.2 a r y.fact (List.mem_singleton.2 rfl)) hyl
            · rw [List.mem_singleton.1 r]; exact hyl
          · exact p3 a hA b q
      · rw [hsplit, facts_app]
        show x ∈ facts (fs.take (k + 1)) ++ f.fact :: facts (fs.drop (k + 1)) ↔ _
        simp only [List.mem_append, List.mem_cons, List.mem_singleton, List.not_mem_nil, or_false]
        constructor
        · rintro (h | h | h)
          · exact .inl (.inl h)
          · exact .inr h
          · exact .inl (.inr h)
        · rintro ((h | h) | h)
          · exact .inl h
          · exact .inr (.inr h)
          · exact .inr (.inl h)
theorem setF_set (fs : List FactH) : facts (setF fs) = setS (facts fs) := by
  refine SetOf.eq cFact_ord ?_
  have key : ∀ (l acc : List FactH) (D : List Fact), SetOf cFact D (facts acc) → SetOf cFact (D ++ facts l) (facts (l.foldl addF acc)) := by
    intro l
    induction l with
    | nil => intro acc D h; show SetOf cFact (D ++ []) _; rw [List.append_nil]; exact h
    | cons x l ih =>
      intro acc D h
      have h1 := addF_set (f := x) h.asc
      have := ih (addF acc x) (D ++ [x.fact]) ⟨h1.asc, fun y => by rw [h1.mem, List.mem_append, h.mem, List.mem_append]⟩
      rw [List.append_assoc] at this
      exact this
  exact key fs [] [] ⟨List.Pairwise.nil, fun x => Iff.rfl⟩
theorem addF_ins {fs : List FactH} {f : FactH} {D : List Fact} (h : facts fs = setS D) : facts (addF fs f) = setS (D ++ [f.fact]) := by
  have ha : (facts fs).Pairwise fun a b => cFact a b = -1 := by rw [h]; exact (setA_of cFact_ord D).asc
  have h1 := addF_set (f := f) ha
  refine (SetOf.mk h1.asc fun x => ?_).eq cFact_ord
  rw [h1.mem, h, List.mem_append, List.mem_append]
  unfold setS
  rw [setA_mem cFact_ord]

section
variable {Γ : Gho} {S : List Res} {w : World}
/-- The reference's set of a list that stands for ever. -/
theorem SetR_any {v : Value} (fs : List FactH) (hok : ∀ x ∈ fs, FOk Γ x) (hl : fs.length ≤ 100000) (hr : RdS Γ S v 2 (fs.map cF)) (hw : Wd Γ S w) :
    Calls Tryz.prog 18 #[v] w fun e w' => ∃ v', e = .returned v' ∧ Wd Γ (.own v' 24 2 ((setF fs).map cF) :: S) w' := by
  obtain ⟨a, n, c, rfl, hn, hnc, hc⟩ := hr.shape
  simp only [List.length_map] at hn
  refine calls_of_W Tryz.func18 rfl rfl ?_
  repeat (first | refine byW ?_ | (refine byV ?_; intro w hw))
  refine W_loop (fun μ ρ w => ∃ (k : Nat) (g : Value), μ + k = n ∧ Has ρ [(0, .slice a n c), (3, g), (4, .int .i64 k)] ∧ Wd Γ (.own g 24 2 ((setF (fs.take k)).map cF) :: S) w) n ⟨0, .slice none 0 0, by omega, ⟨rfl, rfl, rfl, trivial⟩, Wd.addNil hw⟩ ?_
  clear hw
  rintro μ ρ w ⟨k, g, hk, hρ, hw⟩
  rw [hρ.eq]
  have hr2 : RdS Γ (.own g 24 2 ((setF (fs.take k)).map cF) :: S) (.slice a n c) 2 (fs.map cF) := hr.cons
  repeat (first | refine byW ?_ | (refine byV ?_; intro w hw))
  refine W_cond rfl (fun h => ?_) (fun h => ?_)
  · have hkn : k < n := by have := of_decide_eq_true h; omega
    obtain ⟨x, hx⟩ := get_lt (l := fs) (k := k) (by omega)
    have hsl := setF_len (fs.take k)
    rw [List.length_take] at hsl
    repeat (first | refine byW ?_ | (refine byV ?_; intro w hw))
    refine lCall (vs := [g, .agg (cF x).toArray]) ?_
    refine (add_any Γ _ w g _ x (fun y hy => hok y (List.mem_of_mem_take (setF_mem hy))) (hok x (List.mem_of_getElem? hx)) (by omega) hw).mono ?_
    rintro e w ⟨v', rfl, hw⟩
    refine ⟨_, rfl, ?_⟩
    rw [← setF_succ hx] at hw
    repeat (first | refine byW ?_ | (refine byV ?_; intro w hw))
    exact ⟨μ - 1, by omega, k + 1, v', by omega, ⟨rfl, rfl, rfl, trivial⟩, hw⟩
  · have hkn : ¬ k < n := by have := of_decide_eq_false h; omega
    rw [List.take_of_length_le (by omega)] at hw
    repeat (first | refine byW ?_ | (refine byV ?_; intro w hw))
    exact ⟨_, rfl, g, rfl, hw⟩
theorem FsOk.setF {fs : List FactH} (h : FsOk Γ fs) : FsOk Γ (setF fs) := fun x hx => h x (setF_mem hx)
theorem FsOk.addF {fs : List FactH} {f : FactH} (h : FsOk Γ fs) (hf : FOk Γ f) (ho : FactOk f.fact) : FsOk Γ (addF fs f) := fun x hx => by
  rcases addF_mem hx with q | q
  · exact h x q
  · rw [q]; exact ⟨hf, ho⟩
theorem CopyFacts_any {v : Value} (fs : List FactH) (hok : FsOk Γ fs) (hl : fs.length ≤ 100000) (hr : RepS Γ v 2 (fs.map cF)) (hw : Wd Γ S w) :
    Calls Tryz.prog 15 #[v] w fun e w' => ∃ Γ' v' gs, Γ.le Γ' ∧ e = .returned v' ∧ facts gs = facts fs ∧ RL Γ' v' gs ∧ Wd Γ' S w' := by
  obtain ⟨a, n, c, rfl, hn, hnc, hc⟩ := hr.shape
  simp only [List.length_map] at hn
  refine calls_of_W Tryz.func15 rfl rfl ?_
  repeat (first | refine byW ?_ | (refine byV ?_; intro w hw))
  refine W_loop (fun μ ρ w => ∃ (k : Nat) (g : Value) (Γ' : Gho) (gs : List FactH), μ + k = n ∧ Has ρ [(0, .slice a n c), (3, g), (4, .int .i64 k)] ∧ Γ.le Γ' ∧ FsOk Γ' gs ∧ facts gs = (facts fs).take k ∧ Wd Γ' (.own g 24 2 (gs.map cF) :: S) w) n ⟨0, .slice none 0 0, Γ, [], by omega, ⟨rfl, rfl, rfl, trivial⟩, Gho.le.refl _, (fun x hx => by cases hx), rfl, Wd.addNil hw⟩ ?_
  clear hw
  rintro μ ρ w ⟨k, g, Γ', gs, hk, hρ, hle, hokg, hgs, hw⟩
  rw [hρ.eq]
  have hgl : gs.length ≤ fs.length := by have := congrArg List.length hgs; unfold facts at this; simp only [List.length_map, List.length_take] at this; omega
  have hrm := hr.mono hle
  obtain ⟨ag, ng, cg, rfl, hng, hngc, hcg⟩ := hw.own_shape (i := 0) rfl
  simp only [List.length_map] at hng
  repeat (first | refine byW ?_ | (refine byV ?_; intro w hw))
  refine W_cond rfl (fun h => ?_) (fun h => ?_)
  · have hkn : k < n := by have := of_decide_eq_true h; omega
    obtain ⟨x, hx⟩ := get_lt (l := fs) (k := k) (by omega)
    obtain ⟨hxf, hxo⟩ := hok x (List.mem_of_getElem? hx)
    have hxm := hxf.mono hle
    obtain ⟨xl1, xl2, xl3⟩ := hxf.len
    have hx1 := hxo.1
    change x.Args.length ≤ 100000 at hx1
    repeat (first | refine byW ?_ | (refine byV ?_; intro w hw))
    refine W_mixQ [] (.own (.slice ag ng cg) 24 2 (gs.map cF) :: S) [22, 23, 24, 25] 3 (.slice ag ng cg) [[],[],[],[],[],[],[],[],[],[],[],[0],[0],[0],[0],[0,1]] [[1],[],[],[],[],[],[],[],[],[],[],[0],[0],[0],[0],[0,1]] hw ?_
    refine mMoveR (dd := 3) ?_
    repeat (first | refine mY ?_ | refine mP ?_ | refine mPg ?_)
    refine mStepY (φ := fun (_ : Unit) _ => True) (R := fun _ => (.own (.slice ag ng cg) 24 2 (gs.map cF) :: S)) (v := undef) (T' := FactH) (fun t g => g 22 = t.hdr ∧ t.fact = x.fact ∧ t.Rel = x.Rel) (fun t => ownA t :: (.own (.slice ag ng cg) 24 2 (gs.map cF) :: S)) (fun t g w Y _ hw => ?_) ?_
    · refine s_append (i := 0) (rows2 := x.Args.map enc) (Wd.addNil (a := none) (E := 30) (sz := 3) hw) rfl (show ev _ _ = .slice x.A x.N x.C from rfl) rfl (RepS.rd hxm hw) (by rw [List.length_map]; exact xl1) (List.all_eq_true.1 (encs_one x.Args)) (by omega) (by omega) fun v' w' hw' => ?_
      obtain ⟨a2, n2, c2, rfl, -, -, -⟩ := hw'.own_shape (i := 0) rfl
      exact ⟨⟨x.Rel, a2, n2, c2, x.Args⟩, ⟨rfl, rfl, rfl⟩, (fun h => by cases h), hw'⟩
    refine mStepY (φ := fun (t : FactH) g => g 22 = t.hdr ∧ t.fact = x.fact ∧ t.Rel = x.Rel) (R := fun t => ownA t :: (.own (.slice ag ng cg) 24 2 (gs.map cF) :: S)) (v := undef) (T' := FactH) (fun t g => g 23 = .agg (cF t).toArray ∧ t.fact = x.fact) (fun t => ownA t :: (.own (.slice ag ng cg) 24 2 (gs.map cF) :: S)) (fun t g w Y ht hw => (y_build (cells := cF t) ?_).step ⟨t, ⟨rfl, ht.2.1⟩, (fun h => by cases h), hw⟩) ?_
    · have h1 : g 22 = t.hdr := ht.1
      show fillL _ _ [(0, Value.string x.Rel), (1, g 22)] = _
      rw [h1, ← ht.2.2]; rfl
    refine mStepY (φ := fun (t : FactH) g => g 23 = .agg (cF t).toArray ∧ t.fact = x.fact) (R := fun t => ownA t :: (.own (.slice ag ng cg) 24 2 (gs.map cF) :: S)) (v := undef) (T' := Value × FactH) (fun t g => g 24 = t.1 ∧ t.2.fact = x.fact) (fun t => .own t.1 24 2 [cF t.2] :: ownA t.2 :: (.own (.slice ag ng cg) 24 2 (gs.map cF) :: S)) (fun t g w Y ht hw => s_buildSlice (rws := [cF t]) (cells := cF t) hw ?_ (by simp) rfl (by simp [cF]) (by decide) fun q w' hw' => ⟨(_, t), ⟨rfl, ht.2⟩, (fun h => by cases h), hw'⟩) ?_
    · have h1 : g 23 = .agg (cF t).toArray := ht.1
      show fillL _ _ [(0, g 23)] = _
      rw [h1]; rfl
    refine mStepY (φ := fun (t : Value × FactH) g => g 24 = t.1 ∧ t.2.fact = x.fact) (R := fun t => .own t.1 24 2 [cF t.2] :: ownA t.2 :: (.own (.slice ag ng cg) 24 2 (gs.map cF) :: S)) (v := undef) (T' := Value × FactH) (fun t g => g 25 = t.1 ∧ t.2.fact = x.fact) (fun t => .own t.1 24 2 (gs.map cF ++ [cF t.2]) :: ownA t.2 :: S) (fun t g w Y ht hw => ?_) ?_
    · obtain ⟨t1, f⟩ := t
      obtain ⟨a1, n1, c1, rfl, hn1, -, -⟩ := hw.own_shape (i := 0) rfl
      simp at hn1
      exact s_append (i := 2) (rows2 := [cF f]) hw rfl ht.1 rfl (Wd.own_rd (i := 0) hw rfl) (by simp; omega) (cFs_one [f]) (by omega) (by omega) fun v' w' hw' => ⟨(v', f), ⟨rfl, ht.2⟩, (fun h => by cases h), hw'.drop.ps [1]⟩
    refine mAssY (φ := fun (t : Value × FactH) g => g 25 = t.1 ∧ t.2.fact = x.fact) (dx := 25) (dd := 3) (fun t g => g 3 = t.1 ∧ t.2.fact = x.fact) (fun t g ht => ht) ?_
    refine mEndQ (φ := fun (t : Value × FactH) g => g 3 = t.1 ∧ t.2.fact = x.fact) fun t w g ht hw => ?_
    obtain ⟨t1, f⟩ := t
    have hff : f.fact = x.fact := ht.2
    obtain ⟨Γ2, hle2, hokf, hw⟩ := (hw.ps [1]).freeze
    refine W_has (l := [(0, .slice a n c), (3, t1), (4, .int .i64 k)]) ⟨rfl, ht.1, rfl, trivial⟩ fun ρ hρ => ?_
    rw [hρ.eq]
    repeat (first | refine byW ?_ | (refine byV ?_; intro w hw))
    refine ⟨μ - 1, by omega, k + 1, t1, Γ2, gs ++ [f], by omega, ⟨rfl, rfl, rfl, trivial⟩, hle.trans hle2, ?_, ?_, ?_⟩
    · intro f' hf'
      rcases List.mem_append.1 hf' with q | q
      · exact (hokg.mono hle2) f' q
      · rw [List.mem_singleton.1 q]; exact ⟨hokf, by rw [hff]; exact hxo⟩
    · have hfx : (facts fs)[k]? = some x.fact := by unfold facts; rw [List.getElem?_map, hx]; rfl
      rw [List.take_add_one, hfx, facts_app, hgs]
      show _ ++ [f.fact] = _
      rw [hff]; rfl
    · rw [show (gs ++ [f]).map cF = gs.map cF ++ [cF f] from by simp]
      have hw : Wd Γ2 ((.own t1 24 2 (gs.map cF ++ [cF f]) :: S) ++ []) w := hw
      rw [List.append_nil] at hw
      exact hw
  · have hkn : ¬ k < n := by have := of_decide_eq_false h; omega
    have hfl : (facts fs).length = fs.length := List.length_map ..
    rw [List.take_of_length_le (by omega)] at hgs
    repeat (first | refine byW ?_ | (refine byV ?_; intro w hw))
    obtain ⟨Γ2, l2, r2, hw⟩ := hw.freeze
    exact ⟨_, rfl, Γ2, _, gs, hle.trans l2, rfl, hgs, ⟨r2, hokg.mono l2⟩, hw⟩
end
end Go.Proofs.YtmjkacgmepbljaaGreatDoor
end
/- The reference's sets: a fact is put in, taken out, looked for; facts of one relation. -/
section
open Go Mk
namespace Go.Proofs.YtmjkacgmepbljaaGreatDoor
set_option maxHeartbeats 16000000
attribute [local irreducible] Calls cFact

section
variable {Γ : Gho} {S : List Res} {w : World}
theorem RInsert_any {v : Value} {f : FactH} (fs : List FactH) (hok : FsOk Γ fs) (hl : fs.length ≤ 50000) (hf : FOk Γ f) (hfo : FactOk f.fact) (hr : RepS Γ v 2 (fs.map cF)) (hw : Wd Γ S w) :
    Calls Tryz.prog 22 #[v, .agg (cF f).toArray] w fun e w' => ∃ Γ' v' gs, Γ.le Γ' ∧ e = .returned (.tuple #[v', .int .i64 (insS (facts fs) f.fact).2]) ∧ facts gs = (insS (facts fs) f.fact).1 ∧ RL Γ' v' gs ∧ Wd Γ' S w' := by
  obtain ⟨a, n, c, rfl, hn, hnc, hc⟩ := hr.shape
  simp only [List.length_map] at hn
  have hR := pg_Right hf hfo
  have hsl := setF_len fs
  refine calls_of_W Tryz.func22 rfl rfl ?_
  repeat (first | refine byW ?_ | (refine byV ?_; intro w hw))
  refine lBox ?_
  intro b w hw
  have hw : Wd Γ (boxF b f :: S) w := hw
  repeat (first | refine byW ?_ | (refine byV ?_; intro w hw))
  refine W_cond rfl (fun h => ?_) (fun h => ?_)
  · have h : rightS f.fact = false := by simpa using h
    have hI : insS (facts fs) f.fact = ([], 63) := if_neg (by rw [h]; decide)
    rw [hI]
    repeat (first | refine byW ?_ | (refine byV ?_; intro w hw))
    exact ⟨_, rfl, Γ, _, [], Gho.le.refl _, rfl, rfl, RL.nil, hw.drop⟩
  have h : rightS f.fact = true := by simpa using h
  repeat (first | refine byW ?_ | (refine byV ?_; intro w hw))
  refine W_mixE 1 [[],[0],[],[0],[0]] [[],[0],[],[0],[0]] [[11, 13, 6]] ?_
  repeat (first | refine mY ?_ | refine mP ?_ | refine mPg ?_)
  refine mCallG (c := 0) (F := fun _ => []) (fun g => [.own (g 11) 24 2 ((setF fs).map cF)]) (fun _ => [.slice a n c]) (fun g w Y hw => ?_) ?_
  · refine (SetR_any (S := (boxF b f :: S) ++ Y) fs (fun x hx => (hok x hx).1) (by omega) hr.rdS hw).mono ?_
    rintro e w ⟨v1, rfl, hw⟩
    exact ⟨v1, rfl, hw⟩
  repeat (first | refine mY ?_ | refine mP ?_ | refine mPg ?_)
  refine mCallG (c := 0) (F := fun g => [.own (g 11) 24 2 ((setF fs).map cF)]) (fun g => [.own (g 13) 24 2 ((addF (setF fs) f).map cF)]) (fun g => [g 11, .agg (cF f).toArray]) (fun g w Y hw => ?_) ?_
  · refine (add_any Γ ((boxF b f :: S) ++ Y) w _ (setF fs) f (fun y hy => (hok y (setF_mem hy)).1) hf (by omega) hw).mono ?_
    rintro e w ⟨v1, rfl, hw⟩
    exact ⟨v1, rfl, hw⟩
  refine mAssV (c := 0) (dx := 13) (dd := 6) ?_
  refine mEnd fun w g hw => ?_
  have hw : Wd Γ ((boxF b f :: S) ++ ([.own (g 6) 24 2 ((addF (setF fs) f).map cF)] ++ [])) w := hw
  have hw : Wd Γ (.own (g 6) 24 2 ((addF (setF fs) f).map cF) :: boxF b f :: S) w := by rw [List.append_nil] at hw; exact hw.flip
  have hF : facts (addF (setF fs) f) = setS (facts fs ++ [f.fact]) := addF_ins (setF_set fs)
  have hgl : (addF (setF fs) f).length = (setS (facts fs ++ [f.fact])).length := by rw [← hF]; unfold facts; rw [List.length_map]
  obtain ⟨a6, n6, c6, e6, hn6, hnc6, hc6⟩ := hw.own_shape (i := 0) rfl
  simp only [List.length_map] at hn6
  rw [e6] at hw
  refine W_has (l := [(6, .slice a6 n6 c6)]) ⟨e6, trivial⟩ fun ρ hρ => ?_
  rw [hρ.eq]
  obtain ⟨Γ1, l1, r1, hw⟩ := hw.freeze
  repeat (first | refine byW ?_ | (refine byV ?_; intro w hw))
  refine W_cond rfl (fun h5 => ?_) (fun h5 => ?_)
  · have h5 : 8192 < n6 := by have := of_decide_eq_true h5; omega
    have hI : insS (facts fs) f.fact = ([], 15) := by unfold insS; rw [if_pos h, if_neg (by omega)]
    rw [hI]
    repeat (first | refine byW ?_ | (refine byV ?_; intro w hw))
    exact ⟨_, rfl, Γ1, _, [], l1, rfl, rfl, RL.nil, hw.drop⟩
  · have h5 : n6 ≤ 8192 := by have := of_decide_eq_false h5; omega
    have hI : insS (facts fs) f.fact = (setS (facts fs ++ [f.fact]), 0) := by unfold insS; rw [if_pos h, if_pos (by omega)]
    rw [hI]
    repeat (first | refine byW ?_ | (refine byV ?_; intro w hw))
    exact ⟨_, rfl, Γ1, _, addF (setF fs) f, l1, rfl, hF, ⟨r1, (hok.setF.addF hf hfo).mono l1⟩, hw.drop⟩
theorem pg_rcontains {v : Value} {fs : List FactH} {f : FactH} (hok : ∀ x ∈ fs, FOk Γ x) (hr : RepS Γ v 2 (fs.map cF)) (hf : FOk Γ f) : PG Tryz.prog Γ 25 [v, .agg (cF f).toArray] (.bool (decide (f.fact ∈ facts fs))) := ⟨fun S w hw => by
  obtain ⟨a, n, c, rfl, hn, hnc, hc⟩ := hr.shape
  simp only [List.length_map] at hn
  refine calls_of_W Tryz.func25 rfl rfl ?_
  repeat (first | refine byW ?_ | (refine byV ?_; intro w hw))
  refine lBox ?_
  intro b w hw
  have hw : Wd Γ (boxF b f :: S) w := hw
  repeat (first | refine byW ?_ | (refine byV ?_; intro w hw))
  refine W_loop (fun μ ρ w => ∃ (k : Nat), μ + k = n ∧ Has ρ [(0, .slice a n c), (3, .pointer (some ⟨b, 0, none⟩)), (5, .int .i64 k)] ∧ decide (f.fact ∈ facts fs) = decide (f.fact ∈ (facts fs).drop k) ∧ Wd Γ (boxF b f :: S) w) n ⟨0, by omega, ⟨rfl, rfl, rfl, trivial⟩, rfl, hw⟩ ?_
  clear hw
  rintro μ ρ w ⟨k, hk, hρ, ho, hw⟩
  rw [hρ.eq]
  repeat (first | refine byW ?_ | (refine byV ?_; intro w hw))
  refine W_cond rfl (fun h => ?_) (fun h => ?_)
  · have hkn : k < n := by have := of_decide_eq_true h; omega
    obtain ⟨x, hx⟩ := get_lt (l := fs) (k := k) (by omega)
    have hfx : (facts fs)[k]? = some x.fact := by unfold facts; rw [List.getElem?_map, hx]; rfl
    have hC := pg_refF (hok x (List.mem_of_getElem? hx)) hf
    repeat (first | refine byW ?_ | (refine byV ?_; intro w hw))
    refine W_quiet (by kernel_rfl) (by kernel_rfl) hw ?_
    repeat (first | refine Q_nil ?_ | (apply Q_plain; first | (apply Q_go; first | refine qP ?_ | refine qPg ?_) | refine qY ?_) | (apply Q_guarded; first | (apply Q_go; first | refine qPG ?_ | refine qPgG ?_) | refine qG ?_))
    intro w hw
    refine W_cond rfl (fun h3 => ?_) (fun h3 => ?_)
    · have h3 : cFact x.fact f.fact = 0 := of_decide_eq_true h3
      repeat (first | refine byW ?_ | (refine byV ?_; intro w hw))
      refine ⟨_, rfl, ret_b rfl ?_, hw.drop⟩
      symm
      refine decide_eq_true ?_
      rw [← cFact_ord.eq0 h3]
      exact List.mem_of_getElem? hfx
    · have h3 : ¬ cFact x.fact f.fact = 0 := of_decide_eq_false h3
      repeat (first | refine byW ?_ | (refine byV ?_; intro w hw))
      refine ⟨μ - 1, by omega, k + 1, by omega, ⟨rfl, rfl, rfl, trivial⟩, ?_, hw⟩
      rw [ho]
      refine decide_eq_decide.2 ?_
      rw [drop_get hfx, List.mem_cons]
      refine ⟨fun q => q.elim (fun e => ?_) id, .inr⟩
      rw [e, cFact_ord.refl] at h3
      exact absurd rfl h3
  · have hkn : ¬ k < n := by have := of_decide_eq_false h; omega
    have hfl : (facts fs).length = fs.length := List.length_map ..
    repeat (first | refine byW ?_ | (refine byV ?_; intro w hw))
    refine ⟨_, rfl, ret_b rfl ?_, hw.drop⟩
    rw [ho, drop_none (facts fs) (by omega)]; rfl⟩
theorem RRemove_any {v : Value} {f : FactH} (fs : List FactH) (hok : FsOk Γ fs) (hl : fs.length ≤ 50000) (hf : FOk Γ f) (hr : RepS Γ v 2 (fs.map cF)) (hw : Wd Γ S w) :
    Calls Tryz.prog 23 #[v, .agg (cF f).toArray] w fun e w' => ∃ Γ' v' gs, Γ.le Γ' ∧ e = .returned (.tuple #[v', .bool (remS (facts fs) f.fact).2]) ∧ facts gs = (remS (facts fs) f.fact).1 ∧ RL Γ' v' gs ∧ Wd Γ' S w' := by
  have hsl := setF_len fs
  have hsf := setF_set fs
  have hoks := hok.setF
  refine calls_of_W Tryz.func23 rfl rfl ?_
  repeat (first | refine byW ?_ | (refine byV ?_; intro w hw))
  refine lBox ?_
  intro b w hw
  have hw : Wd Γ (boxF b f :: S) w := hw
  repeat (first | refine byW ?_ | (refine byV ?_; intro w hw))
  refine lCall (vs := [v]) ?_
  refine (SetR_any fs (fun x hx => (hok x hx).1) (by omega) hr.rdS hw).mono ?_
  clear hw
  rintro e w ⟨v7, rfl, hw⟩
  refine ⟨_, rfl, ?_⟩
  generalize setF fs = hs at *
  obtain ⟨a, n, c, rfl, hn, hnc, hc⟩ := hw.own_shape (i := 0) rfl
  simp only [List.length_map] at hn
  have hw := Wd.addNil (a := none) (E := 24) (sz := 2) hw
  repeat (first | refine byW ?_ | (refine byV ?_; intro w hw))
  refine W_loop (fun μ ρ w => ∃ (k : Nat) (g : Value), μ + k = n ∧ Has ρ [(3, .pointer (some ⟨b, 0, none⟩)), (6, g), (7, .slice a n c), (8, .int .i64 k)] ∧ Wd Γ (.own g 24 2 (((hs.take k).filter (neF f.fact)).map cF) :: .own (.slice a n c) 24 2 (hs.map cF) :: boxF b f :: S) w) n ⟨0, .slice none 0 0, by omega, ⟨rfl, rfl, rfl, rfl, trivial⟩, hw⟩ ?_
  clear hw
  rintro μ ρ w ⟨k, g, hk, hρ, hw⟩
  rw [hρ.eq]
  repeat (first | refine byW ?_ | (refine byV ?_; intro w hw))
  refine W_cond rfl (fun h => ?_) (fun h => ?_)
  · have hkn : k < n := by have := of_decide_eq_true h; omega
    obtain ⟨x, hx⟩ := get_lt (l := hs) (k := k) (by omega)
    have hC := pg_refF (hoks x (List.mem_of_getElem? hx)).1 hf
    have hsucc := filt_succ (p := neF f.fact) hx
    have hfl := List.length_filter_le (neF f.fact) (hs.take k)
    rw [List.length_take] at hfl
    repeat (first | refine byW ?_ | (refine byV ?_; intro w hw))
    refine W_quiet (by kernel_rfl) (by kernel_rfl) hw ?_
    repeat (first | refine Q_nil ?_ | (apply Q_plain; first | (apply Q_go; first | refine qP ?_ | refine qPg ?_) | refine qY ?_) | (apply Q_guarded; first | (apply Q_go; first | refine qPG ?_ | refine qPgG ?_) | refine qG ?_))
    intro w hw
    refine W_cond rfl (fun h3 => ?_) (fun h3 => ?_)
    · have h3 : ¬ cFact x.fact f.fact = 0 := of_decide_eq_true h3
      have h4 : neF f.fact x = true := by
        unfold neF
        rw [decide_eq_false (fun e => h3 (by rw [e]; exact cFact_ord.refl _))]; rfl
      rw [if_pos h4] at hsucc
      obtain ⟨ag, ng, cg, rfl, hng, hngc, hcg⟩ := hw.own_shape (i := 0) rfl
      simp only [List.length_map] at hng
      repeat (first | refine byW ?_ | (refine byV ?_; intro w hw))
      refine lBuildSlice [cF x] ?_
      intro a29 w hw
      refine lApp (i := 1) (rows2 := [cF x]) ?_ (Wd.own_rd (i := 0) hw rfl)
      intro v' w hw
      repeat (first | refine byW ?_ | (refine byV ?_; intro w hw))
      have hw : Wd Γ (.own v' 24 2 (((hs.take k).filter (neF f.fact)).map cF ++ [cF x]) :: .own (.slice a n c) 24 2 (hs.map cF) :: boxF b f :: S) w := hw.drop
      rw [show ((hs.take k).filter (neF f.fact)).map cF ++ [cF x] = ((hs.take (k + 1)).filter (neF f.fact)).map cF from by rw [hsucc]; simp] at hw
      exact ⟨μ - 1, by omega, k + 1, v', by omega, ⟨rfl, rfl, rfl, rfl, trivial⟩, hw⟩
    · have h3 : cFact x.fact f.fact = 0 := Classical.not_not.1 (of_decide_eq_false h3)
      have h4 : ¬ neF f.fact x = true := by
        unfold neF
        rw [decide_eq_true (cFact_ord.eq0 h3)]; decide
      rw [if_neg h4] at hsucc
      repeat (first | refine byW ?_ | (refine byV ?_; intro w hw))
      exact ⟨μ - 1, by omega, k + 1, g, by omega, ⟨rfl, rfl, rfl, rfl, trivial⟩, by rw [hsucc]; exact hw⟩
  · have hkn : ¬ k < n := by have := of_decide_eq_false h; omega
    rw [List.take_of_length_le (show hs.length ≤ k by omega)] at hw
    obtain ⟨ag, ng, cg, rfl, hng, hngc, hcg⟩ := hw.own_shape (i := 0) rfl
    simp only [List.length_map] at hng
    obtain ⟨Γ2, l2, r2, hw⟩ := hw.freeze
    have hfl : facts (hs.filter (neF f.fact)) = (remS (facts fs) f.fact).1 := by rw [facts_filt, hsf]; rfl
    have hnl : ng = (remS (facts fs) f.fact).1.length := by rw [← hfl]; unfold facts; rw [List.length_map]; exact hng
    have hnn : n = (setS (facts fs)).length := by rw [← hsf]; unfold facts; rw [List.length_map]; exact hn
    have hR : (remS (facts fs) f.fact).2 = decide ((ng : Int) < (n : Int)) := by
      unfold remS
      refine decide_eq_decide.2 ?_
      unfold remS at hnl
      dsimp only at hnl ⊢
      omega
    rw [hR]
    repeat (first | refine byW ?_ | (refine byV ?_; intro w hw))
    exact ⟨_, rfl, Γ2, _, hs.filter (neF f.fact), l2, rfl, hfl, ⟨r2, fun x hx => ⟨(hoks x (List.mem_filter.1 hx).1).1.mono l2, (hoks x (List.mem_filter.1 hx).1).2⟩⟩, hw.ds [0, 0]⟩
end
end Go.Proofs.YtmjkacgmepbljaaGreatDoor
end
/- The facts of one relation. -/
section
open Go Mk
namespace Go.Proofs.YtmjkacgmepbljaaGreatDoor
set_option maxHeartbeats 16000000
attribute [local irreducible] Calls cFact

def selP (r : ByteArray) (m : Int) (x : Fact) : Bool := decide (x.1 = r) && decide ((x.2.length : Int) = m)
def selF (r : ByteArray) (m : Int) (x : FactH) : Bool := decide (x.Rel = r) && decide ((x.N : Int) = m)
def selS (l : List Fact) (r : ByteArray) (m : Int) : List Fact := (setS l).filter (selP r m)
theorem selF_eq {Γ : Gho} {r : ByteArray} {m : Int} {x : FactH} (h : FOk Γ x) : selF r m x = selP r m x.fact := by
  have := h.len.1
  unfold selF selP
  rw [this]; rfl
theorem facts_sel {Γ : Gho} {r : ByteArray} {m : Int} : ∀ {fs : List FactH}, (∀ x ∈ fs, FOk Γ x) → facts (fs.filter (selF r m)) = (facts fs).filter (selP r m)
  | [], _ => rfl
  | x :: fs, h => by
    have ih := facts_sel (r := r) (m := m) (fs := fs) fun y hy => h y (List.mem_cons_of_mem _ hy)
    show facts ((x :: fs).filter (selF r m)) = (x.fact :: facts fs).filter (selP r m)
    rw [List.filter_cons, List.filter_cons, selF_eq (h x List.mem_cons_self)]
    split
    · show x.fact :: facts _ = _
      rw [ih]
    · exact ih
section
variable {Γ : Gho} {S : List Res} {w : World}
theorem Select_any {v : Value} {r : ByteArray} {m : Int} (fs : List FactH) (hok : FsOk Γ fs) (hl : fs.length ≤ 50000) (hr : RepS Γ v 2 (fs.map cF)) (hw : Wd Γ S w) :
    Calls Tryz.prog 26 #[v, .string r, .int .i64 m] w fun e w' => ∃ v' gs, e = .returned v' ∧ facts gs = selS (facts fs) r m ∧ FsOk0 gs ∧ Wd Γ (.own v' 24 2 (gs.map cF) :: (gs.map ownA ++ S)) w' := by
  obtain ⟨a, n, c, rfl, hn, hnc, hc⟩ := hr.shape
  simp only [List.length_map] at hn
  refine calls_of_W Tryz.func26 rfl rfl ?_
  repeat (first | refine byW ?_ | (refine byV ?_; intro w hw))
  refine W_loop (fun μ ρ w => ∃ (k : Nat) (g : Value), μ + k = n ∧ Has ρ [(1, .string r), (2, .int .i64 m), (7, g), (10, .slice a n c), (11, .int .i64 n), (12, .int .i64 k)] ∧ Wd Γ (.own g 24 2 (((fs.take k).filter (selF r m)).map cF) :: S) w) n ⟨0, .slice none 0 0, by omega, ⟨rfl, rfl, rfl, rfl, rfl, rfl, trivial⟩, Wd.addNil hw⟩ ?_
  clear hw
  rintro μ ρ w ⟨k, g, hk, hρ, hw⟩
  rw [hρ.eq]
  repeat (first | refine byW ?_ | (refine byV ?_; intro w hw))
  refine W_cond rfl (fun h => ?_) (fun h => ?_)
  · have hkn : k < n := by have := of_decide_eq_true h; omega
    obtain ⟨x, hx⟩ := get_lt (l := fs) (k := k) (by omega)
    have hxo := (hok x (List.mem_of_getElem? hx)).1
    have hsucc := filt_succ (p := selF r m) hx
    have hfl := List.length_filter_le (selF r m) (fs.take k)
    rw [List.length_take] at hfl
    repeat (first | refine byW ?_ | (refine byV ?_; intro w hw))
    refine lAlloc ?_
    intro b9 w hw
    refine lStore ?_
    intro w hw
    have hw : Wd Γ (boxF b9 x :: .own g 24 2 (((fs.take k).filter (selF r m)).map cF) :: S) w := hw
    repeat (first | refine byW ?_ | (refine byV ?_; intro w hw))
    refine W_cond rfl (fun h3 => ?_) (fun h3 => ?_)
    · have h3 : selF r m x = true := h3
      rw [if_pos h3] at hsucc
      obtain ⟨ag, ng, cg, rfl, hng, hngc, hcg⟩ := hw.own_shape (i := 1) rfl
      simp only [List.length_map] at hng
      repeat (first | refine byW ?_ | (refine byV ?_; intro w hw))
      refine lBuildSlice [cF x] ?_
      intro a29 w hw
      refine lApp (i := 2) (rows2 := [cF x]) ?_ (Wd.own_rd (i := 0) hw rfl)
      intro v' w hw
      repeat (first | refine byW ?_ | (refine byV ?_; intro w hw))
      have hw : Wd Γ (.own v' 24 2 (((fs.take k).filter (selF r m)).map cF ++ [cF x]) :: S) w := hw.ds [0, 0]
      rw [show ((fs.take k).filter (selF r m)).map cF ++ [cF x] = ((fs.take (k + 1)).filter (selF r m)).map cF from by rw [hsucc]; simp] at hw
      exact ⟨μ - 1, by omega, k + 1, v', by omega, ⟨rfl, rfl, rfl, rfl, rfl, rfl, trivial⟩, hw⟩
    · have h3 : selF r m x = false := h3
      rw [if_neg (by rw [h3]; decide)] at hsucc
      repeat (first | refine byW ?_ | (refine byV ?_; intro w hw))
      exact ⟨μ - 1, by omega, k + 1, g, by omega, ⟨rfl, rfl, rfl, rfl, rfl, rfl, trivial⟩, by rw [hsucc]; exact hw.drop⟩
  · have hkn : ¬ k < n := by have := of_decide_eq_false h; omega
    rw [List.take_of_length_le (show fs.length ≤ k by omega)] at hw
    have hfl := List.length_filter_le (selF r m) fs
    repeat (first | refine byW ?_ | (refine byV ?_; intro w hw))
    refine lCall (vs := [g]) ?_
    refine (setO_any (fs.filter (selF r m)) (fun x hx => hok x (List.mem_filter.1 hx).1) (by omega) (RdS.own (i := 0) hw rfl) hw).mono ?_
    clear hw
    rintro e w ⟨v1, gs, rfl, h1, h2, hw⟩
    refine ⟨_, rfl, ?_⟩
    repeat (first | refine byW ?_ | (refine byV ?_; intro w hw))
    refine ⟨_, rfl, v1, gs, rfl, ?_, h2, ?_⟩
    · rw [h1, facts_sel (fun x hx => (hok x hx).1)]
      exact setA_filter cFact_ord _ _
    · have hw : Wd Γ ((.own v1 24 2 (gs.map cF) :: gs.map ownA) ++ (.own g 24 2 ((fs.filter (selF r m)).map cF) :: S)) w := hw
      exact (hw.perm List.perm_middle).drop
theorem RSelect_any {v : Value} {r : ByteArray} {m : Int} (fs : List FactH) (hok : FsOk Γ fs) (hl : fs.length ≤ 50000) (hr : RepS Γ v 2 (fs.map cF)) (hw : Wd Γ S w) :
    Calls Tryz.prog 27 #[v, .string r, .int .i64 m] w fun e w' => ∃ v' gs, e = .returned v' ∧ facts gs = selS (facts fs) r m ∧ FsOk Γ gs ∧ Wd Γ (.own v' 24 2 (gs.map cF) :: S) w' := by
  have hsl := setF_len fs
  have hsf := setF_set fs
  have hoks := hok.setF
  refine calls_of_W Tryz.func27 rfl rfl ?_
  repeat (first | refine byW ?_ | (refine byV ?_; intro w hw))
  refine lCall (vs := [v]) ?_
  refine (SetR_any fs (fun x hx => (hok x hx).1) (by omega) hr.rdS hw).mono ?_
  clear hw
  rintro e w ⟨v8, rfl, hw⟩
  refine ⟨_, rfl, ?_⟩
  generalize setF fs = hs at *
  obtain ⟨a, n, c, rfl, hn, hnc, hc⟩ := hw.own_shape (i := 0) rfl
  simp only [List.length_map] at hn
  have hw := Wd.addNil (a := none) (E := 24) (sz := 2) hw
  repeat (first | refine byW ?_ | (refine byV ?_; intro w hw))
  refine W_loop (fun μ ρ w => ∃ (k : Nat) (g : Value), μ + k = n ∧ Has ρ [(1, .string r), (2, .int .i64 m), (7, g), (8, .slice a n c), (9, .int .i64 k)] ∧ Wd Γ (.own g 24 2 (((hs.take k).filter (selF r m)).map cF) :: .own (.slice a n c) 24 2 (hs.map cF) :: S) w) n ⟨0, .slice none 0 0, by omega, ⟨rfl, rfl, rfl, rfl, rfl, trivial⟩, hw⟩ ?_
  clear hw
  rintro μ ρ w ⟨k, g, hk, hρ, hw⟩
  rw [hρ.eq]
  repeat (first | refine byW ?_ | (refine byV ?_; intro w hw))
  refine W_cond rfl (fun h => ?_) (fun h => ?_)
  · have hkn : k < n := by have := of_decide_eq_true h; omega
    obtain ⟨x, hx⟩ := get_lt (l := hs) (k := k) (by omega)
    have hsucc := filt_succ (p := selF r m) hx
    have hfl := List.length_filter_le (selF r m) (hs.take k)
    rw [List.length_take] at hfl
    repeat (first | refine byW ?_ | (refine byV ?_; intro w hw))
    refine W_cond rfl (fun h3 => ?_) (fun h3 => ?_)
    · have h3 : selF r m x = true := h3
      rw [if_pos h3] at hsucc
      obtain ⟨ag, ng, cg, rfl, hng, hngc, hcg⟩ := hw.own_shape (i := 0) rfl
      simp only [List.length_map] at hng
      repeat (first | refine byW ?_ | (refine byV ?_; intro w hw))
      refine lBuildSlice [cF x] ?_
      intro a29 w hw
      refine lApp (i := 1) (rows2 := [cF x]) ?_ (Wd.own_rd (i := 0) hw rfl)
      intro v' w hw
      repeat (first | refine byW ?_ | (refine byV ?_; intro w hw))
      have hw : Wd Γ (.own v' 24 2 (((hs.take k).filter (selF r m)).map cF ++ [cF x]) :: .own (.slice a n c) 24 2 (hs.map cF) :: S) w := hw.drop
      rw [show ((hs.take k).filter (selF r m)).map cF ++ [cF x] = ((hs.take (k + 1)).filter (selF r m)).map cF from by rw [hsucc]; simp] at hw
      exact ⟨μ - 1, by omega, k + 1, v', by omega, ⟨rfl, rfl, rfl, rfl, rfl, trivial⟩, hw⟩
    · have h3 : selF r m x = false := h3
      rw [if_neg (by rw [h3]; decide)] at hsucc
      repeat (first | refine byW ?_ | (refine byV ?_; intro w hw))
      exact ⟨μ - 1, by omega, k + 1, g, by omega, ⟨rfl, rfl, rfl, rfl, rfl, trivial⟩, by rw [hsucc]; exact hw⟩
  · have hkn : ¬ k < n := by have := of_decide_eq_false h; omega
    rw [List.take_of_length_le (show hs.length ≤ k by omega)] at hw
    repeat (first | refine byW ?_ | (refine byV ?_; intro w hw))
    refine ⟨_, rfl, g, hs.filter (selF r m), rfl, ?_, fun x hx => hoks x (List.mem_filter.1 hx).1, hw.dropAt 1⟩
    rw [facts_sel (fun x hx => (hoks x hx).1), hsf]; rfl
end
end Go.Proofs.YtmjkacgmepbljaaGreatDoor
end
/- The check on a drawn region's text, with ancestors held as bits of a number: it serves long chains. -/
section
open Go
namespace Mk
def maskL (done : List Nat) : List Edge → Nat → Nat
  | [], m => m
  | e :: es, m => maskL done es (if Region.binds .any e then (m ||| (1 <<< e.on)) ||| done.getD e.on 0 else m)
def masks : List Nat → List Oper → List Nat
  | done, [] => done
  | done, o :: l => masks (done ++ [maskL done o.after.toList 0]) l
theorem maskL_spec {done : List Nat} {dl : List (List Nat)} (h : ∀ j i, (done.getD j 0).testBit i = true → i ∈ dl.getD j []) : ∀ (es : List Edge) (m i : Nat), (maskL done es m).testBit i = true → m.testBit i = true ∨ i ∈ es.flatMap fun e => if Region.binds .any e then e.on :: (dl.getD e.on []) else []
  | [], m, i, hi => .inl hi
  | e :: es, m, i, hi => by
    rw [List.flatMap_cons]
    rcases maskL_spec h es _ i hi with q | q
    · split at q
      · rename_i hb
        rw [if_pos hb]
        rw [Nat.testBit_or, Nat.testBit_or, Bool.or_eq_true, Bool.or_eq_true] at q
        rcases q with (q | q) | q
        · exact .inl q
        · rw [Nat.one_shiftLeft, Nat.testBit_two_pow] at q
          have q := of_decide_eq_true q
          exact .inr (by rw [q]; simp)
        · exact .inr (List.mem_append_left _ (List.mem_cons_of_mem _ (h _ _ q)))
      · exact .inl q
    · exact .inr (List.mem_append_right _ q)
theorem getD_snoc {α : Type} {l : List α} {x d : α} {j : Nat} : (l ++ [x]).getD j d = if j < l.length then l.getD j d else if j = l.length then x else d := by
  rw [List.getD_eq_getElem?_getD, List.getD_eq_getElem?_getD]
  split
  · rename_i h; rw [List.getElem?_append_left h]
  · rename_i h
    rw [List.getElem?_append_right (by omega)]
    split
    · rename_i e; rw [e, Nat.sub_self]; rfl
    · rw [List.getElem?_eq_none (by simp; omega)]; rfl
theorem masks_spec : ∀ (ops : List Oper) (done : List Nat) (dl : List (List Nat)), done.length = dl.length → (∀ j i, (done.getD j 0).testBit i = true → i ∈ dl.getD j []) → ∀ j i, ((masks done ops).getD j 0).testBit i = true → i ∈ (ancs dl ops).getD j []
  | [], _, _, _, h, j, i, hi => h j i hi
  | o :: ops, done, dl, hl, h, j, i, hi => by
    refine masks_spec ops _ _ (by simp [hl]) (fun j i hi => ?_) j i hi
    rw [getD_snoc] at hi ⊢
    rw [← hl]
    split
    · rename_i hj; rw [if_pos hj] at hi; exact h j i hi
    · rename_i hj
      rw [if_neg hj] at hi
      split
      · rename_i e
        rw [if_pos e] at hi
        rcases maskL_spec h _ _ _ hi with q | q
        · simp at q
        · exact q
      · rename_i e
        rw [if_neg e] at hi
        simp at hi
def checkMB (n : Nat) (ops : List Oper) (wr tc stab : List (List Nat)) : Bool :=
  let A := masks [] ops
  (List.range ops.length).all fun j => match ops[j]? with
    | none => true
    | some oj => (oj.after.toList.all fun e => !Region.binds .any e || Nat.blt e.on j) && checkR.okNoSel oj && (match oj.guard with | some (g, _) => ((ops[g]?).bind (·.dst)).isSome | none => true) && okDst n oj.dst &&
      ((wr.getD j []).all fun x => (tc.getD j []).contains x) && ((tc.getD j []).all fun x => Nat.blt x stab.length) && !dup (tc.getD j []) &&
      (match oj.dst with | some d => (List.range stab.length).all fun x => !((stab.getD x []).contains d) || (wr.getD j []).contains x | none => true) &&
      ((List.range j).all fun i => match ops[i]? with
        | none => true
        | some oi => (apartR ops oi oj && !clash wr tc i j) || (A.getD j 0).testBit i)
theorem checkM_B {n : Nat} {ops : List Oper} {wr tc stab : List (List Nat)} (h : checkMB n ops wr tc stab = true) : checkM n ops wr tc stab = true := by
  have hA := masks_spec ops [] [] rfl (fun j i hi => by simp at hi)
  unfold checkMB at h
  unfold checkM
  rw [List.all_eq_true] at h ⊢
  intro j hj
  have h1 := h j hj
  cases ho : ops[j]? with
  | none => rfl
  | some oj =>
    simp only [ho, Bool.and_eq_true] at h1 ⊢
    refine ⟨h1.1, ?_⟩
    rw [List.all_eq_true]
    intro i hi
    have h2 := (List.all_eq_true.1 h1.2) i hi
    cases ho2 : ops[i]? with
    | none => rfl
    | some oi =>
      simp only [ho2, Bool.or_eq_true] at h2 ⊢
      refine h2.imp id fun q => ?_
      rw [List.contains_iff_mem]
      exact hA j i q
end Mk
end
/- FactSets: the operations on sets of facts equal the reference's, walked. -/
section
open Go Mk
namespace Go.Proofs.YtmjkacgmepbljaaGreatDoor
set_option maxHeartbeats 16000000
attribute [local irreducible] Calls cFact

theorem RL.imm {Γ Γ' : Gho} {v : Value} {fs : List FactH} (h : RL Γ v fs) (hi : ∀ b o, Γ.imm b = some o → Γ'.imm b = some o) : RL Γ' v fs := ⟨RepS.imm h.rep hi, fun f hf => ⟨RepS.imm (h.ok f hf).1 hi, (h.ok f hf).2⟩⟩
set_option maxRecDepth 8000 in
theorem FactSets_any {Γ : Gho} {S : List Res} {w : World} [hT : TabG Γ] {v : Value} {r : ByteArray} {m : Int} (db : List FactH) (f g : FactH) (hr : RepS Γ v 2 (db.map cF)) (hi : FsIn Γ db) (hi2 : FsIn Γ [f, g]) (hw : Wd Γ S w) :
    Calls Tryz.prog 7 #[v, .agg (cF f).toArray, .agg (cF g).toArray, .string r, .int .i64 m] w fun e w' => ∃ Γ', Γ.le Γ' ∧ e = .returned (.bool true) ∧ Wd Γ' S w' := by
  have hFew := pg_few db (fun x hx => (hi x hx).1) hr
  obtain ⟨a, n, c, rfl, hn, hnc, hc⟩ := hr.shape
  simp only [List.length_map] at hn
  have hf := (hi2 f (by simp)).1
  have hg := (hi2 g (by simp)).1
  refine calls_of_W Tryz.func7 rfl rfl ?_
  repeat (first | refine byW ?_ | (refine byV ?_; intro w hw))
  refine lBox ?_
  intro b6 w hw
  refine lBox ?_
  intro b7 w hw
  have hw : Wd Γ (boxF b7 g :: boxF b6 f :: S) w := hw
  cases hD : fewB (facts db) with
  | false =>
    rw [hD] at hFew
    repeat (first | (first | refine W_seq ?_ | refine W_block ?_ | refine W_region ?_ | refine W_skip ?_ | refine W_ret ?_ | refine W_exit ?_) | ((first | apply L_bin | apply L_notop); first | (refine lT ?_ ?_; (first | exact rfl | exact decide_eq_true rfl | (simp; done))) | (refine lF ?_ ?_; (first | exact rfl | exact decide_eq_true rfl | (simp; done)))) | (first | refine L_nil ?_ | (apply L_plain; first | (apply L_go; first | refine lP ?_ | (refine lPg ?_; intro w hw)) | (apply L_mf; refine lMakeFunc ?_) | refine lY ?_) | (apply L_guarded; first | refine lGT ?_ (hct := rfl) | refine lGF ?_ (hct := rfl) | (apply L_go; first | refine lPG ?_ | (refine lPgG ?_; intro w hw)) | refine lG ?_)) | (refine lAlloc ?_; intro _ w hw) | (refine lBox ?_; intro _ w hw) | (refine lStore ?_; intro w hw))
    refine W_cond_true rfl ?_
    repeat (first | refine byW ?_ | (refine byV ?_; intro w hw))
    exact ⟨_, rfl, Γ, Gho.le.refl _, rfl, hw.drop.drop⟩
  | true =>
  rw [hD] at hFew
  repeat (first | (first | refine W_seq ?_ | refine W_block ?_ | refine W_region ?_ | refine W_skip ?_ | refine W_ret ?_ | refine W_exit ?_) | ((first | apply L_bin | apply L_notop); first | (refine lT ?_ ?_; (first | exact rfl | exact decide_eq_true rfl | (simp; done))) | (refine lF ?_ ?_; (first | exact rfl | exact decide_eq_true rfl | (simp; done)))) | (first | refine L_nil ?_ | (apply L_plain; first | (apply L_go; first | refine lP ?_ | (refine lPg ?_; intro w hw)) | (apply L_mf; refine lMakeFunc ?_) | refine lY ?_) | (apply L_guarded; first | refine lGT ?_ (hct := rfl) | refine lGF ?_ (hct := rfl) | (apply L_go; first | refine lPG ?_ | (refine lPgG ?_; intro w hw)) | refine lG ?_)) | (refine lAlloc ?_; intro _ w hw) | (refine lBox ?_; intro _ w hw) | (refine lStore ?_; intro w hw))
  refine lBuildSlice [cF f, cF g] ?_
  intro a23 w hw
  refine L_guarded (lGT ?_ (hct := rfl))
  refine lCall (vs := [.slice (some a23) 2 2]) ?_
  refine (Few_any [f, g] (fun x hx => (hi2 x hx).1) (RdS.own (i := 0) hw rfl) hw).mono ?_
  clear hw
  rintro e w ⟨rfl, hw⟩
  refine ⟨_, rfl, ?_⟩
  have hw : Wd Γ (boxF b7 g :: boxF b6 f :: S) w := hw.drop
  cases hE : fewB (facts [f, g]) with
  | false =>
    repeat (first | (first | refine W_seq ?_ | refine W_block ?_ | refine W_region ?_ | refine W_skip ?_ | refine W_ret ?_ | refine W_exit ?_) | ((first | apply L_bin | apply L_notop); first | (refine lT ?_ ?_; (first | exact rfl | exact decide_eq_true rfl | (simp; done))) | (refine lF ?_ ?_; (first | exact rfl | exact decide_eq_true rfl | (simp; done)))) | (first | refine L_nil ?_ | (apply L_plain; first | (apply L_go; first | refine lP ?_ | (refine lPg ?_; intro w hw)) | (apply L_mf; refine lMakeFunc ?_) | refine lY ?_) | (apply L_guarded; first | refine lGT ?_ (hct := rfl) | refine lGF ?_ (hct := rfl) | (apply L_go; first | refine lPG ?_ | (refine lPgG ?_; intro w hw)) | refine lG ?_)) | (refine lAlloc ?_; intro _ w hw) | (refine lBox ?_; intro _ w hw) | (refine lStore ?_; intro w hw))
    refine W_cond_true rfl ?_
    repeat (first | refine byW ?_ | (refine byV ?_; intro w hw))
    exact ⟨_, rfl, Γ, Gho.le.refl _, rfl, hw.drop.drop⟩
  | true =>
  repeat (first | (first | refine W_seq ?_ | refine W_block ?_ | refine W_region ?_ | refine W_skip ?_ | refine W_ret ?_ | refine W_exit ?_) | ((first | apply L_bin | apply L_notop); first | (refine lT ?_ ?_; (first | exact rfl | exact decide_eq_true rfl | (simp; done))) | (refine lF ?_ ?_; (first | exact rfl | exact decide_eq_true rfl | (simp; done)))) | (first | refine L_nil ?_ | (apply L_plain; first | (apply L_go; first | refine lP ?_ | (refine lPg ?_; intro w hw)) | (apply L_mf; refine lMakeFunc ?_) | refine lY ?_) | (apply L_guarded; first | refine lGT ?_ (hct := rfl) | refine lGF ?_ (hct := rfl) | (apply L_go; first | refine lPG ?_ | (refine lPgG ?_; intro w hw)) | refine lG ?_)) | (refine lAlloc ?_; intro _ w hw) | (refine lBox ?_; intro _ w hw) | (refine lStore ?_; intro w hw))
  refine W_cond rfl (fun _ => ?_) (fun _ => ?_)
  · repeat (first | refine byW ?_ | (refine byV ?_; intro w hw))
    exact ⟨_, rfl, Γ, Gho.le.refl _, rfl, hw.drop.drop⟩
  obtain ⟨hdl, hdb⟩ := hi.ok hD
  obtain ⟨-, hfg⟩ := hi2.ok hE
  have hff := (hfg f (by simp)).2
  have hgg := (hfg g (by simp)).2
  clear hFew hi hi2
  repeat (first | refine byW ?_ | (refine byV ?_; intro w hw))
  refine lCall (vs := [.slice a n c]) ?_
  refine (CopyFacts_any db hdb (by omega) hr hw).mono ?_
  clear hw
  rintro e w ⟨Γ1, vx, lx, le1, rfl, hX, hLX, hw⟩
  refine ⟨_, rfl, ?_⟩
  have hxl : lx.length = db.length := by have := congrArg List.length hX; unfold facts at this; simpa using this
  obtain ⟨ax, cx, hvx, kx1, kx2⟩ := hLX.len
  rw [hvx]
  rw [hvx] at hLX
  clear hvx
  repeat (first | refine byW ?_ | (refine byV ?_; intro w hw))
  refine lCall (vs := [.slice ax lx.length cx, .agg (cF f).toArray]) ?_
  refine (Insert_any lx hLX.ok (by omega) (hf.mono le1) hff hLX.rep.rdS hw).mono ?_
  clear hw
  rintro e w ⟨Γ2, va, la, le2, rfl, hA, hLA, hw⟩
  refine ⟨_, rfl, ?_⟩
  rw [hX] at hA ⊢
  obtain ⟨aa, ca, hva, ka1, ka2⟩ := hLA.len
  rw [hva]
  rw [hva] at hLA
  clear hva
  replace hLX := hLX.mono le2
  replace le1 := le1.trans le2
  clear le2
  repeat (first | refine byW ?_ | (refine byV ?_; intro w hw))
  refine lCall (vs := [.slice a n c, .agg (cF f).toArray]) ?_
  refine (RInsert_any db (hdb.mono le1) (by omega) (hf.mono le1) hff (hr.mono le1) hw).mono ?_
  clear hw
  rintro e w ⟨Γ3, vb, lb, le2, rfl, hB, hLB, hw⟩
  refine ⟨_, rfl, ?_⟩
  obtain ⟨ab, cb, hvb, kb1, kb2⟩ := hLB.len
  rw [hvb]
  rw [hvb] at hLB
  clear hvb
  replace hLX := hLX.mono le2
  replace hLA := hLA.mono le2
  replace le1 := le1.trans le2
  clear le2
  repeat (first | refine byW ?_ | (refine byV ?_; intro w hw))
  refine lCall (vs := [.slice ax lx.length cx, .agg (cF f).toArray]) ?_
  refine (Remove_any lx hLX.ok (by omega) (hf.mono le1) hLX.rep.rdS hw).mono ?_
  clear hw
  rintro e w ⟨Γ4, vc, lc, le2, rfl, hC, hLC, hw⟩
  refine ⟨_, rfl, ?_⟩
  rw [hX] at hC ⊢
  obtain ⟨ac, cc, hvc, kc1, kc2⟩ := hLC.len
  rw [hvc]
  rw [hvc] at hLC
  clear hvc
  replace hLX := hLX.mono le2
  replace hLA := hLA.mono le2
  replace hLB := hLB.mono le2
  replace le1 := le1.trans le2
  clear le2
  repeat (first | refine byW ?_ | (refine byV ?_; intro w hw))
  refine lCall (vs := [.slice a n c, .agg (cF f).toArray]) ?_
  refine (RRemove_any db (hdb.mono le1) (by omega) (hf.mono le1) (hr.mono le1) hw).mono ?_
  clear hw
  rintro e w ⟨Γ5, vd, ld, le2, rfl, hDd, hLD, hw⟩
  refine ⟨_, rfl, ?_⟩
  obtain ⟨ad, cd, hvd, kd1, kd2⟩ := hLD.len
  rw [hvd]
  rw [hvd] at hLD
  clear hvd
  replace hLX := hLX.mono le2
  replace hLA := hLA.mono le2
  replace hLB := hLB.mono le2
  replace hLC := hLC.mono le2
  replace le1 := le1.trans le2
  clear le2
  have hT5 : TabG Γ5 := hT.mono le1
  have hr5 := hr.mono le1
  have hdb5 := hdb.mono le1
  have hf5 := hf.mono le1
  have hg5 := hg.mono le1
  have hLdb : RL Γ5 (.slice a n c) db := ⟨hr5, hdb5⟩
  have q1 := pg_cmpF hf5 hg5
  have q2 := pg_refF hf5 hg5
  have q3 := pg_same hLA hLB
  rw [hA, hB, decide_eq_true rfl] at q3
  have q4 := pg_same hLC hLD
  rw [hC, hDd, decide_eq_true rfl] at q4
  have q5 := pg_contains hLX hf5
  rw [hX] at q5
  have q6 := pg_rcontains (fun x hx => (hdb5 x hx).1) hr5 hf5
  have q7 := pg_same hLX hLdb
  rw [hX, decide_eq_true rfl] at q7
  repeat (first | refine byW ?_ | (refine byV ?_; intro w hw))
  refine W_has (l := [(0, .slice a n c), (3, .string r), (4, .int .i64 m), (6, .pointer (some ⟨b6, 0, none⟩)), (7, .pointer (some ⟨b7, 0, none⟩)), (11, .slice ax lx.length cx), (12, .slice aa la.length ca), (13, .int .i64 (insS (facts db) f.fact).2), (14, .slice ab lb.length cb), (15, .int .i64 (insS (facts db) f.fact).2), (16, .slice ac lc.length cc), (17, .bool (remS (facts db) f.fact).2), (18, .slice ad ld.length cd), (19, .bool (remS (facts db) f.fact).2)]) ⟨rfl, rfl, rfl, rfl, rfl, rfl, rfl, rfl, rfl, rfl, rfl, rfl, rfl, rfl, trivial⟩ fun ρ hρ => ?_
  rw [hρ.eq]
  generalize (insS (facts db) f.fact).2 = ei
  generalize (remS (facts db) f.fact).2 = bi
  refine W_mixE 2 [[],[],[],[],[],[],[],[],[],[],[],[],[],[],[],[],[],[],[],[],[],[],[],[],[],[],[],[],[],[],[],[],[],[],[],[],[],[],[],[],[0],[],[],[],[1],[],[],[],[],[],[],[],[],[],[],[]] [[],[],[],[],[],[],[],[],[],[],[],[],[],[],[],[],[],[],[],[],[],[],[],[],[],[],[],[],[],[],[],[],[],[],[],[],[],[],[],[],[0],[],[],[],[1],[0,1],[],[],[],[],[],[],[],[],[],[]] [[102], [106]] ?_ (hk := checkM_B (by kernel_rfl))
  iterate 6 (first | refine mPg ?_ | refine mY ?_)
  refine mT (decide_eq_true rfl) ?_
  iterate 8 (first | (refine mGuard ?_; first | refine mPg ?_ | refine mY ?_) | refine mPg ?_ | refine mY ?_)
  refine mGuard ?_
  refine mT (decide_eq_true rfl) ?_
  iterate 9 (first | (refine mGuard ?_; first | refine mPg ?_ | refine mY ?_) | refine mPg ?_ | refine mY ?_)
  refine mGuard ?_
  refine mT (beq_self_eq_true bi) ?_
  iterate 8 (first | (refine mGuard ?_; first | refine mPg ?_ | refine mY ?_) | refine mPg ?_ | refine mY ?_)
  refine mGuard ?_
  refine mT (beq_self_eq_true _) ?_
  iterate 5 (first | (refine mGuard ?_; first | refine mPg ?_ | refine mY ?_) | refine mPg ?_ | refine mY ?_)
  refine mGuard ?_
  refine mCallG (c := 0) (F := fun _ => []) (exC (fun (t : Value × List FactH) g => g 102 = t.1 ∧ facts t.2 = selS (facts db) r m ∧ FsOk0 t.2) fun t => .own t.1 24 2 (t.2.map cF) :: t.2.map ownA) (fun _ => [.slice ax lx.length cx, .string r, .int .i64 m]) (fun g w Y hw => ?_) ?_
  · refine (Select_any (S := (boxF b7 _ :: boxF b6 f :: S) ++ Y) lx hLX.ok (by omega) hLX.rep hw).mono ?_
    rintro e w ⟨v1, gs, rfl, h1, h2, hw⟩
    rw [hX] at h1
    exact ⟨v1, rfl, exC_mk (v1, gs) ⟨rfl, h1, h2⟩ hw⟩
  iterate 3 (first | (refine mGuard ?_; first | refine mPg ?_ | refine mY ?_) | refine mPg ?_ | refine mY ?_)
  refine mGuard ?_
  refine mCallG (c := 1) (F := fun _ => []) (exC (fun (t : Value × List FactH) g => g 106 = t.1 ∧ facts t.2 = selS (facts db) r m ∧ FsOk Γ5 t.2) fun t => [.own t.1 24 2 (t.2.map cF)]) (fun _ => [.slice a n c, .string r, .int .i64 m]) (fun g w Y hw => ?_) ?_
  · refine (RSelect_any (S := (boxF b7 _ :: boxF b6 f :: S) ++ Y) db hdb5 (by omega) hr5 hw).mono ?_
    rintro e w ⟨v1, gs, rfl, h1, h2, hw⟩
    exact ⟨v1, rfl, exC_mk (v1, gs) ⟨rfl, h1, h2⟩ hw⟩
  refine mGuard ?_
  refine mC (v := .bool true) (fun Y w g hw => ?_) rfl rfl rfl ?_
  · have hw2 : Wd Γ5 ((boxF b7 _ :: boxF b6 f :: S) ++ ((exC (fun (t : Value × List FactH) g => g 102 = t.1 ∧ facts t.2 = selS (facts db) r m ∧ FsOk0 t.2) (fun t => .own t.1 24 2 (t.2.map cF) :: t.2.map ownA) (ovr [102] g noFr) ++ (exC (fun (t : Value × List FactH) g => g 106 = t.1 ∧ facts t.2 = selS (facts db) r m ∧ FsOk Γ5 t.2) (fun t => [.own t.1 24 2 (t.2.map cF)]) (ovr [106] g noFr) ++ [])) ++ Y)) w := hw
    rw [List.append_nil, List.append_assoc] at hw2
    obtain ⟨⟨v1, g1⟩, ⟨e1, k1, o1⟩, hw2⟩ := exC_open hw2.swapApp
    have e1 : g 102 = v1 := e1
    have k1 : facts g1 = selS (facts db) r m := k1
    obtain ⟨Γ6, l6, r6, hw2⟩ := freezeL o1 hw2
    obtain ⟨⟨v2, g2⟩, ⟨e2, k2, o2⟩, hw2⟩ := exC_open hw2.swapApp
    have e2 : g 106 = v2 := e2
    have k2 : facts g2 = selS (facts db) r m := k2
    obtain ⟨Γ7, l7, r7, hw2⟩ := Wd.freeze hw2
    have h1 : RL (allG0 w) v1 g1 := RL.imm (r6.mono l7) fun b o hb => hw2.imm b o hb
    have h2 : RL (allG0 w) v2 g2 := RL.imm (RL.mk r7 ((FsOk.mono o2 l6).mono l7)) fun b o hb => hw2.imm b o hb
    have hS := pg_same h1 h2
    rw [k1, k2, decide_eq_true rfl] at hS
    have ea : ∀ ρ' : Fr, EvL (ovr [102, 106] g ρ') [Operand.tmp 102, Operand.tmp 106] [v1, v2] := fun ρ' => by
      have d1 : ovr [102, 106] g ρ' 102 = v1 := (ovr_in (by simp)).trans e1
      have d2 : ovr [102, 106] g ρ' 106 = v2 := (ovr_in (by simp)).trans e2
      exact EvL.cons (show ev (ovr [102, 106] g ρ') (Operand.tmp 102) = v1 from d1) (EvL.cons (show ev (ovr [102, 106] g ρ') (Operand.tmp 106) = v2 from d2) EvL.nil)
    exact s_call (args := [Operand.tmp 102, Operand.tmp 106].toArray) (vs := [v1, v2].toArray) (ea _).eqA ((hS.h [] w (allG0_wd w)).mono fun e w' ⟨q1, q2⟩ => ⟨_, q1, rfl, wd_kept0 hT5.dr hw q2⟩)
  iterate 9 (first | (refine mGuard ?_; first | refine mPg ?_ | refine mY ?_) | refine mPg ?_ | refine mY ?_)
  refine mY ?_
  refine mEnd fun w g hw => ?_
  have hw : Wd Γ5 (boxF b7 _ :: boxF b6 f :: S) w := Wd.left (S := boxF b7 _ :: boxF b6 f :: S) hw
  refine W_has (l := [(10, .bool true)]) ⟨rfl, trivial⟩ fun ρ hρ => ?_
  rw [hρ.eq]
  repeat (first | refine byW ?_ | (refine byV ?_; intro w hw))
  exact ⟨_, rfl, Γ5, le1, rfl, hw.drop.drop⟩
theorem FactSets_all {W : World} (hT : TabG (allG0 W)) {v : Value} {r : ByteArray} {m : Int} (db : List FactH) (f g : FactH) (h0 : RepS (allG0 W) v 2 (db.map cF) ∧ FsIn (allG0 W) db) (h1 : FOk (allG0 W) f ∧ FactIn f.fact) (h2 : FOk (allG0 W) g ∧ FactIn g.fact) :
    Calls Tryz.prog 7 #[v, .agg (cF f).toArray, .agg (cF g).toArray, .string r, .int .i64 m] W fun e w' => ∃ Γ', (allG0 W).le Γ' ∧ e = .returned (.bool true) ∧ Wd Γ' [] w' :=
  FactSets_any db f g h0.1 h0.2 (FsIn.cons h1 (FsIn.cons h2 FsIn.nil)) (allG0_wd W)
end Go.Proofs.YtmjkacgmepbljaaGreatDoor
end
