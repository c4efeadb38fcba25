/- Texts of this proof, one behind another. -/
import Derived.Test.YteiijmclobggjaaGreatM4
import Derived.Test.YteiijmclobggjaaGreatM3
set_option linter.unusedVariables false
set_option linter.unusedSimpArgs false
/- The plan's tree: whom it reaches, that it is valid, and that an exchange of two edges of one sender leaves it valid. -/
section
open Go Mk
namespace Go.Proofs.YteiijmclobggjaaGreat

/-! ### what is given -/
structure PlanOk (H : HwT) (r : Int) (ms : List Int) : Prop where
  v : validS H = 0
  kr : (findC H.Cores r).2 = true
  km : ∀ a ∈ ms, (findC H.Cores a).2 = true
  nr : r ∉ ms
  nd : ms.Nodup
section
variable {H : HwT} {r : Int} {ms : List Int}
theorem PlanOk.mem (p : PlanOk H r ms) : memErr H r ms = 0 := by
  unfold memErr
  have h1 : (r :: ms).all (fun id => (findC H.Cores id).2) = true := List.all_eq_true.2 fun x hx => by
    rcases List.mem_cons.1 hx with rfl | hx
    · exact p.kr
    · exact p.km x hx
  have h2 : decP (r :: ms).Nodup = true := decP_t (List.nodup_cons.2 ⟨p.nr, p.nd⟩)
  rw [if_neg (by rw [h1]; simp), if_neg (by rw [h2]; simp)]
theorem PlanOk.err (p : PlanOk H r ms) {cost : Int} (hc : 0 ≤ cost ∧ cost ≤ 1000000) : planErr H r ms cost = 0 := by
  unfold planErr
  rw [if_neg (by rw [p.v]; simp), if_neg (by rw [p.mem]; simp), if_neg (by omega)]
theorem PlanOk.rng (p : PlanOk H r ms) {a : Int} (h : a ∈ ms) : 0 ≤ coreN H a ∧ coreN H a < 64 := coreN_rng p.v (p.km a h)

theorem rootAt_mem {n b : Int} (h : b ∈ rootAt H r ms n) : b ∈ ms ∧ coreN H b = n := by
  unfold rootAt at h
  by_cases c : n = coreN H r ∨ grpL H ms n = []
  · rw [if_pos c] at h; exact grpL_mem.1 h
  · rw [if_neg c] at h
    rw [List.mem_singleton.1 h]
    exact grpL_mem.1 (fwdL_mem fun e => c (.inr e))
theorem rootAt_nodup (h : ms.Nodup) (n : Int) : (rootAt H r ms n).Nodup := by
  unfold rootAt
  split
  · exact h.filter _
  · simp
theorem flatMap_nodup {α β : Type} {f : α → List β} : ∀ {l : List α}, l.Nodup → (∀ a ∈ l, (f a).Nodup) → (∀ a ∈ l, ∀ b ∈ l, ∀ x, x ∈ f a → x ∈ f b → a = b) → (l.flatMap f).Nodup
  | [], _, _, _ => by simp
  | a :: l, hn, h1, h2 => by
    rw [List.nodup_cons] at hn
    rw [List.flatMap_cons, List.nodup_append]
    refine ⟨h1 a (by simp), flatMap_nodup hn.2 (fun b hb => h1 b (by simp [hb])) (fun b hb c hc => h2 b (by simp [hb]) c (by simp [hc])), fun x hx y hy e => ?_⟩
    subst e
    obtain ⟨b, hb, hxb⟩ := List.mem_flatMap.1 hy
    have := h2 a (by simp) b (by simp [hb]) x hx hxb
    subst this
    exact hn.1 hb
theorem chP_root_nodup (h : ms.Nodup) : (chP H r ms r).Nodup := by
  rw [chP_root]
  refine flatMap_nodup List.nodup_range (fun i _ => rootAt_nodup h _) fun i _ j _ x hi hj => ?_
  have h1 := (rootAt_mem hi).2
  have h2 := (rootAt_mem hj).2
  omega
theorem chP_nodup (h : ms.Nodup) (x : Int) : (chP H r ms x).Nodup := by
  by_cases e : x = r
  · subst e; exact chP_root_nodup h
  · unfold chP chK
    rw [if_neg e]
    split
    · exact (h.filter _).filter _
    · simp
theorem chP_root_mem {b : Int} (h : b ∈ chP H r ms r) : b ∈ rootAt H r ms (coreN H b) := by
  rw [chP_root] at h
  obtain ⟨i, -, hi⟩ := List.mem_flatMap.1 h
  rw [(rootAt_mem hi).2]
  exact hi
/-- A child of a forwarder is no child of the root. -/
theorem chP_apart {f b : Int} (hf : f ≠ r) (h : b ∈ chP H r ms f) : b ∉ chP H r ms r := fun hb => by
  obtain ⟨h1, -, -, h2, h3⟩ := chP_other hf h
  have hb := chP_root_mem hb
  unfold isFwd at h1
  obtain ⟨e1, e2, e3⟩ := of_decide_eq_true h1
  unfold rootAt at hb
  rw [h2, if_neg] at hb
  · rw [← e3] at hb
    exact h3 (List.mem_singleton.1 hb)
  · rintro (c | c)
    · exact e1 c
    · have : f ∈ grpL H ms (coreN H f) := grpL_mem.2 ⟨e2, rfl⟩
      rw [c] at this; simp at this
theorem chP_one {f g b : Int} (hf : f ≠ r) (hg : g ≠ r) (h : b ∈ chP H r ms f) (k : b ∈ chP H r ms g) : f = g := by
  obtain ⟨h1, -, -, h2, -⟩ := chP_other hf h
  obtain ⟨k1, -, -, k2, -⟩ := chP_other hg k
  unfold isFwd at h1 k1
  obtain ⟨-, -, e1⟩ := of_decide_eq_true h1
  obtain ⟨-, -, e2⟩ := of_decide_eq_true k1
  rw [e1, e2, ← h2, ← k2]
/-- Every member is reached. -/
theorem chP_all (p : PlanOk H r ms) {b : Int} (h : b ∈ ms) : b ∈ chP H r ms r ∨ ∃ f ∈ chP H r ms r, f ≠ r ∧ b ∈ chP H r ms f := by
  have hr := p.rng h
  have hin : ∀ {x : Int}, x ∈ rootAt H r ms (coreN H b) → x ∈ chP H r ms r := fun {x} hx => by
    rw [chP_root]
    refine List.mem_flatMap.2 ⟨(coreN H b).toNat, by simp; omega, ?_⟩
    rw [show (((coreN H b).toNat : Nat) : Int) = coreN H b by omega]
    exact hx
  have hg : b ∈ grpL H ms (coreN H b) := grpL_mem.2 ⟨h, rfl⟩
  have hne : grpL H ms (coreN H b) ≠ [] := fun e => by rw [e] at hg; simp at hg
  by_cases c : coreN H b = coreN H r
  · left
    refine hin ?_
    unfold rootAt
    rw [if_pos (.inl c)]
    exact hg
  · have hra : rootAt H r ms (coreN H b) = [fwdL H (grpL H ms (coreN H b))] := by unfold rootAt; rw [if_neg fun e => e.elim c hne]
    have hf := grpL_mem.1 (fwdL_mem (H := H) hne)
    have hfn : fwdL H (grpL H ms (coreN H b)) ≠ r := fun h => p.nr (by rw [← h]; exact hf.1)
    have hfr : fwdL H (grpL H ms (coreN H b)) ∈ chP H r ms r := hin (by rw [hra]; simp)
    by_cases e : b = fwdL H (grpL H ms (coreN H b))
    · left; rw [e]; exact hfr
    · right
      refine ⟨_, hfr, hfn, ?_⟩
      unfold chP chK
      rw [if_neg hfn, if_pos, hf.2]
      · exact List.mem_filter.2 ⟨hg, by simpa using e⟩
      · refine ⟨?_, by rw [hf.2]; omega, by rw [hf.2]; omega⟩
        unfold isFwd
        exact decide_eq_true ⟨by rw [hf.2]; exact c, hf.1, by rw [hf.2]⟩
theorem srt_mem {cost : Int} {x y : Int} : y ∈ srt (farI H) cost (chP H r ms) x ↔ y ∈ chP H r ms x := (srt_perm x).mem_iff

/-- Whom the edges reach. -/
theorem planE_tos {cost : Int} (p : PlanOk H r ms) : ((planE H r ms cost).map (·.2)).Perm ms := by
  have e : (planE H r ms cost).map (·.2) = (r :: srt (farI H) cost (chP H r ms) r).flatMap fun f => srt (farI H) cost (chP H r ms) f := by
    unfold planE
    rw [List.map_flatMap]
    congr 1
    funext f
    rw [List.map_map]
    exact (List.map_congr_left fun x _ => rfl).trans (List.map_id _)
  rw [e]
  have hnr : r ∉ srt (farI H) cost (chP H r ms) r := fun h => p.nr (chP_mem (srt_mem.1 h))
  have hnd : (srt (farI H) cost (chP H r ms) r).Nodup := (srt_perm r).nodup_iff.2 (chP_root_nodup p.nd)
  refine (List.perm_ext_iff_of_nodup ?_ p.nd).2 fun b => ?_
  · refine flatMap_nodup (List.nodup_cons.2 ⟨hnr, hnd⟩) (fun f _ => (srt_perm f).nodup_iff.2 (chP_nodup p.nd f)) fun f _ g _ b hf hg => ?_
    have hf := srt_mem.1 hf
    have hg := srt_mem.1 hg
    by_cases e1 : f = r <;> by_cases e2 : g = r
    · rw [e1, e2]
    · subst e1; exact absurd hf (chP_apart e2 hg)
    · subst e2; exact absurd hg (chP_apart e1 hf)
    · exact chP_one e1 e2 hf hg
  · rw [List.mem_flatMap]
    constructor
    · rintro ⟨f, -, hf⟩
      exact chP_mem (srt_mem.1 hf)
    · intro hb
      rcases chP_all p hb with h | ⟨f, hf, -, h⟩
      · exact ⟨r, by simp, srt_mem.2 h⟩
      · exact ⟨f, List.mem_cons.2 (.inr (srt_mem.2 hf)), srt_mem.2 h⟩
theorem planE_len {cost : Int} (p : PlanOk H r ms) : (planE H r ms cost).length = ms.length := by
  rw [← (planE_tos (cost := cost) p).length_eq, List.length_map]

/-! ### blocks of edges -/
def cntF (es : List Pl) (m : Nat) (f : Int) : Nat := (es.take m).countP fun e => decide (e.1 = f)
def blocks (K : Int → List Int) (fs : List Int) : List Pl := fs.flatMap fun f => (K f).map fun t => (f, t)
theorem planE_blocks {cost : Int} : planE H r ms cost = blocks (srt (farI H) cost (chP H r ms)) (r :: srt (farI H) cost (chP H r ms) r) := rfl
theorem count_block {K : List Int} {f g : Int} (m : Nat) : ((K.map fun t => ((f, t) : Pl)).take m).countP (fun e => decide (e.1 = g)) = if f = g then min m K.length else 0 := by
  rw [← List.map_take, List.countP_map]
  by_cases e : f = g
  · subst e
    rw [if_pos rfl]
    have : ((fun e : Pl => decide (e.1 = f)) ∘ fun t => ((f, t) : Pl)) = fun _ => true := by funext t; simp
    rw [this, List.countP_true]
    simp
  · rw [if_neg e]
    have : ((fun e : Pl => decide (e.1 = g)) ∘ fun t => ((f, t) : Pl)) = fun _ => false := by funext t; simp [e]
    rw [this, List.countP_false]; rfl
theorem cntF_app {A B : List Pl} {m : Nat} {f : Int} : cntF (A ++ B) m f = cntF A m f + cntF B (m - A.length) f := by
  unfold cntF
  rw [List.take_append, List.countP_append]
theorem block_at {K : Int → List Int} : ∀ {fs : List Int}, fs.Nodup → ∀ {m : Nat} {e : Pl}, (blocks K fs)[m]? = some e → e.1 ∈ fs ∧ (K e.1)[cntF (blocks K fs) m e.1]? = some e.2
  | [], _, m, e, h => by simp [blocks] at h
  | f :: fs, hn, m, e, h => by
    rw [List.nodup_cons] at hn
    have hb : blocks K (f :: fs) = ((K f).map fun t => ((f, t) : Pl)) ++ blocks K fs := rfl
    rw [hb] at h ⊢
    rw [cntF_app]
    have hc := count_block (K := K f) (f := f) (g := e.1) m
    by_cases hm : m < (K f).length
    · rw [List.getElem?_append_left (by simpa using hm)] at h
      obtain ⟨t, ht, rfl⟩ : ∃ t, (K f)[m]? = some t ∧ (f, t) = e := by simpa using h
      refine ⟨by simp, ?_⟩
      show (K f)[cntF _ m f + cntF _ _ f]? = some t
      have h0 : m - ((K f).map fun t => ((f, t) : Pl)).length = 0 := by simp; omega
      rw [h0]
      have h1 : cntF (blocks K fs) 0 f = 0 := by simp [cntF]
      have h2 : cntF ((K f).map fun t => ((f, t) : Pl)) m f = m := by
        unfold cntF
        rw [count_block, if_pos rfl]; omega
      rw [h1, h2]
      exact ht
    · rw [List.getElem?_append_right (by simp; omega)] at h
      obtain ⟨h1, h2⟩ := block_at hn.2 h
      refine ⟨by simp [h1], ?_⟩
      have hne : f ≠ e.1 := fun e' => hn.1 (e' ▸ h1)
      have h3 : cntF ((K f).map fun t => ((f, t) : Pl)) m e.1 = 0 := by
        unfold cntF
        rw [count_block, if_neg hne]
      rw [h3, Nat.zero_add]
      exact h2
/-! ### one sender's edges lie together -/
def Together (es : List Pl) : Prop := ∀ (j m i : Nat) (a b : Pl), j ≤ m → m ≤ i → es[j]? = some a → es[i]? = some b → a.1 = b.1 → ∀ c, es[m]? = some c → c.1 = a.1
theorem together_blocks {K : Int → List Int} : ∀ {fs : List Int}, fs.Nodup → Together (blocks K fs)
  | [], _ => fun j m i a b _ _ h => by simp [blocks] at h
  | f :: fs, hn => by
    rw [List.nodup_cons] at hn
    have hb : blocks K (f :: fs) = ((K f).map fun t => ((f, t) : Pl)) ++ blocks K fs := rfl
    rw [hb]
    intro j m i a b hjm hmi ha hb' hab c hc
    have hin : ∀ {q : Nat} {x : Pl}, (blocks K fs)[q]? = some x → x.1 ∈ fs := fun {q x} h => (block_at hn.2 h).1
    have hlo : ∀ {q : Nat} {x : Pl}, q < (K f).length → (((K f).map fun t => ((f, t) : Pl)) ++ blocks K fs)[q]? = some x → x.1 = f := fun {q x} hq h => by
      rw [List.getElem?_append_left (by simpa using hq)] at h
      obtain ⟨t, -, rfl⟩ : ∃ t, (K f)[q]? = some t ∧ (f, t) = x := by simpa using h
      rfl
    have hhi : ∀ {q : Nat} {x : Pl}, ¬ q < (K f).length → (((K f).map fun t => ((f, t) : Pl)) ++ blocks K fs)[q]? = some x → (blocks K fs)[q - (K f).length]? = some x := fun {q x} hq h => by
      rw [List.getElem?_append_right (by simp; omega)] at h
      simpa using h
    by_cases h1 : i < (K f).length
    · rw [hlo (by omega) ha, hlo (by omega) hc]
    · have hb2 := hhi h1 hb'
      by_cases h2 : j < (K f).length
      · have := hlo h2 ha
        have h3 := hin hb2
        rw [← hab, this] at h3
        exact absurd h3 hn.1
      · exact together_blocks hn.2 (j - (K f).length) (m - (K f).length) (i - (K f).length) a b (by omega) (by omega) (hhi h2 ha) hb2 hab c (hhi (by omega) hc)
theorem together_done {es : List Pl} (h : Together es) {i : Nat} {e : Pl} (he : es[i]? = some e) : ¬ DoneAt es i e.1 := by
  rintro ⟨j, a, b, hj, ha, hb, hab, hae⟩
  exact hab (h j (j + 1) i a e (by omega) hj ha he hae b hb).symm
theorem proto_together {r : Int} {es : List Pl} (h : ProtoP r es) : Together es := fun j m i a b hjm hmi ha hb hab c hc => by
  have hd := (h i b hb).2
  have key : ∀ d, j + d ≤ i → ∀ c, es[j + d]? = some c → c.1 = a.1 := by
    intro d
    induction d with
    | zero => intro _ c hc; rw [Nat.add_zero, ha] at hc; cases hc; rfl
    | succ d ih =>
      intro hd2 c hc
      obtain ⟨c0, hc0⟩ : ∃ c0, es[j + d]? = some c0 := by
        have := (List.getElem?_eq_some_iff.1 hc).1
        exact ⟨_, List.getElem?_eq_getElem (by omega)⟩
      have h0 := ih (by omega) c0 hc0
      by_cases e : c0.1 = c.1
      · rw [← e]; exact h0
      · exact absurd ⟨j + d, c0, c, by omega, hc0, hc, e, h0.trans hab⟩ hd
  have := key (m - j) (by omega) c (by rw [show j + (m - j) = m by omega]; exact hc)
  exact this

theorem planE_froms {cost : Int} (p : PlanOk H r ms) : (r :: srt (farI H) cost (chP H r ms) r).Nodup :=
  List.nodup_cons.2 ⟨fun h => p.nr (chP_mem (srt_mem.1 h)), (srt_perm r).nodup_iff.2 (chP_root_nodup p.nd)⟩
/-- The root's edges come first. -/
theorem planE_first {cost : Int} {m : Nat} (h : m < (srt (farI H) cost (chP H r ms) r).length) : ∃ c, (srt (farI H) cost (chP H r ms) r)[m]? = some c ∧ (planE H r ms cost)[m]? = some (r, c) := by
  refine ⟨_, List.getElem?_eq_getElem h, ?_⟩
  rw [planE_blocks]
  have hb : blocks (srt (farI H) cost (chP H r ms)) (r :: srt (farI H) cost (chP H r ms) r) = ((srt (farI H) cost (chP H r ms) r).map fun t => ((r, t) : Pl)) ++ blocks (srt (farI H) cost (chP H r ms)) (srt (farI H) cost (chP H r ms) r) := rfl
  rw [hb, List.getElem?_append_left (by simpa using h)]
  simp [h]
theorem planE_later {cost : Int} {m : Nat} {e : Pl} (h : ¬ m < (srt (farI H) cost (chP H r ms) r).length) (he : (planE H r ms cost)[m]? = some e) : e.1 ∈ srt (farI H) cost (chP H r ms) r := by
  rw [planE_blocks] at he
  have hb : blocks (srt (farI H) cost (chP H r ms)) (r :: srt (farI H) cost (chP H r ms) r) = ((srt (farI H) cost (chP H r ms) r).map fun t => ((r, t) : Pl)) ++ blocks (srt (farI H) cost (chP H r ms)) (srt (farI H) cost (chP H r ms) r) := rfl
  rw [hb, List.getElem?_append_right (by simp; omega)] at he
  obtain ⟨f, hf, h2⟩ := List.mem_flatMap.1 (List.mem_of_getElem? he)
  obtain ⟨t, -, rfl⟩ := List.mem_map.1 h2
  exact hf
theorem planE_proto {cost : Int} (p : PlanOk H r ms) : ProtoP r (planE H r ms cost) := fun i e he => by
  refine ⟨?_, together_done (by rw [planE_blocks]; exact together_blocks (planE_froms p)) he⟩
  by_cases h : i < (srt (farI H) cost (chP H r ms) r).length
  · obtain ⟨c, -, hc⟩ := planE_first h
    rw [hc] at he
    cases he
    simp
  · have hf := planE_later h he
    obtain ⟨q, hq⟩ := List.getElem?_of_mem hf
    have hql := (List.getElem?_eq_some_iff.1 hq).1
    obtain ⟨c, hc, hc2⟩ := planE_first hql
    rw [hq] at hc
    cases hc
    refine List.mem_cons.2 (.inr (List.mem_map.2 ⟨(r, e.1), ?_, rfl⟩))
    refine List.mem_of_getElem? (i := q) ?_
    rw [List.getElem?_take, if_pos (by omega)]
    exact hc2
theorem planE_tree {cost : Int} (p : PlanOk H r ms) : treeErr H r (planE H r ms cost) = 0 := by
  have ht := planE_tos (cost := cost) p
  have h1 : ((findC H.Cores r).2 && (planE H r ms cost).all (knownT H)) = true := by
    rw [p.kr, Bool.true_and, List.all_eq_true]
    intro e he
    have h2 : e.2 ∈ ms := ht.mem_iff.1 (List.mem_map_of_mem he)
    have h3 : e.1 = r ∨ e.1 ∈ ms := by
      obtain ⟨f, hf, h3⟩ := List.mem_flatMap.1 he
      obtain ⟨t, -, rfl⟩ := List.mem_map.1 h3
      rcases List.mem_cons.1 hf with hf | hf
      · exact .inl hf
      · exact .inr (chP_mem (srt_mem.1 hf))
    unfold knownT
    rw [p.km _ h2, Bool.and_true]
    rcases h3 with h3 | h3
    · rw [h3]; exact p.kr
    · exact p.km _ h3
  have h2 : (r :: (planE H r ms cost).map (·.2)).Nodup := List.nodup_cons.2 ⟨fun h => p.nr (ht.mem_iff.1 h), ht.nodup_iff.2 p.nd⟩
  unfold treeErr
  rw [if_pos p.v, if_pos h1, if_pos (decP_t h2), if_pos (decP_t (planE_proto p))]
end
end Go.Proofs.YteiijmclobggjaaGreat
end
/- Arrivals, walked. -/
section
open Go Mk
namespace Go.Proofs.YteiijmclobggjaaGreat
set_option maxHeartbeats 8000000
attribute [local irreducible] Calls
noncomputable def arrS (H : HwT) (r : Int) (es : List Pl) (cost : Int) : List Int × Int :=
  if treeErr H r es = 0 then (if cost < 0 ∨ 1000000 < cost then ([], 6) else (arrF (farI H) cost (fun _ => 0) (fun _ => 0) es, 0)) else ([], treeErr H r es)
theorem arrivals_any {Γ : Gho} {u v : Value} {H : HwT} [hh : HwR Γ u H] {es : List Pl} [hr : SlC Γ v 2 (es.map plV)] [hsh : ShortL es] (r cost : Int) {S : List Res} {w : World} (hw : Wd Γ S w) :
    Calls Tryz.prog 13 #[u, .agg #[.int .i64 r, v], .int .i64 cost] w fun e w' => ∃ vo, e = .returned (.tuple #[vo, .int .i64 (arrS H r es cost).2]) ∧ Wd Γ (.own vo 3 1 (intRows (arrS H r es cost).1) :: S) w' := by
  have hh' := hh
  obtain ⟨a1, n1, c1, a2, n2, c2, a3, n3, c3, a4, n4, c4, a5, n5, c5, cs, rfl, -⟩ := hh.h
  have hrs := hr.h
  obtain ⟨am, nm, cm, rfl, hnm, hnmc, hcm⟩ := hr.h.shape
  simp only [List.length_map] at hnm
  have hms := hsh.h
  refine calls_of_W Tryz.func13 rfl rfl ?_
  repeat (first | refine byW ?_ | (refine byV ?_; intro w hw))
  refine lBox ?_
  intro b3 w hw
  refine lBox ?_
  intro b4 w hw
  have hw : Wd Γ (.blk b4 (.cells #[.int .i64 r, .slice am nm cm] 32) :: .blk b3 (.cells #[.string H.Name, .slice a1 n1 c1, .slice a2 n2 c2, .slice a3 n3 c3, .slice a4 n4 c4, .slice a5 n5 c5] 28) :: S) w := hw
  unfold arrS
  repeat (first | refine byW ?_ | (refine byV ?_; intro w hw))
  refine W_cond rfl (fun h => ?_) (fun h => ?_)
  · have h : ¬ treeErr H r es = 0 := by simpa using h
    rw [if_neg h]
    repeat (first | refine byW ?_ | (refine byV ?_; intro w hw))
    exact ⟨_, rfl, _, rfl, Wd.addNil (hw.ds [0, 0])⟩
  have h : treeErr H r es = 0 := by simpa using h
  rw [if_pos h]
  have hv : validS H = 0 := by
    unfold treeErr at h
    by_cases e : validS H = 0
    · exact e
    · rw [if_neg e] at h; exact absurd h e
  have hkn : ∀ e ∈ es, (findC H.Cores e.1).2 = true ∧ (findC H.Cores e.2).2 = true := by
    unfold treeErr at h
    rw [if_pos hv] at h
    by_cases e : ((findC H.Cores r).2 && es.all (knownT H)) = true
    · intro x hx
      have := List.all_eq_true.1 (Bool.and_eq_true_iff.1 e).2 x hx
      unfold knownT at this
      exact Bool.and_eq_true_iff.1 this
    · rw [if_neg e] at h; cases h
  repeat (first | refine byW ?_ | (refine byV ?_; intro w hw))
  refine W_cond rfl (fun h2 => ?_) (fun h2 => ?_)
  · have h2 : (decide (cost < 0) || decide (cost > 1000000)) = true := h2
    rw [if_pos (by simp at h2; omega)]
    repeat (first | refine byW ?_ | (refine byV ?_; intro w hw))
    exact ⟨_, rfl, _, rfl, Wd.addNil (hw.ds [0, 0])⟩
  have h2 : (decide (cost < 0) || decide (cost > 1000000)) = false := h2
  have hc : 0 ≤ cost ∧ cost ≤ 1000000 := by simp at h2; omega
  rw [if_neg (by omega)]
  clear h2
  repeat (first | refine byW ?_ | (refine byV ?_; intro w hw))
  refine L_step rfl rfl (s_makeMap (K := 3) (α := Int) (f := (id : Value → Value)) hw fun bm w hw => ?_)
  repeat (first | refine byW ?_ | (refine byV ?_; intro w hw))
  refine lBox ?_
  intro bb w hw
  have hw := btwP_new (Γ := Γ) (bb := bb) (H := H) (bm := bm) (a1 := a1) (n1 := n1) (c1 := c1) (a2 := a2) (n2 := n2) (c2 := c2) (a3 := a3) (n3 := n3) (c3 := c3) (a4 := a4) (n4 := n4) (c4 := c4) (a5 := a5) (n5 := n5) (c5 := c5) hw
  repeat (first | refine byW ?_ | (refine byV ?_; intro w hw))
  refine L_step rfl rfl (s_makeMap (K := 3) (α := Int) (f := fun n : Int => Value.int .i64 n) hw fun bs w hw => ?_)
  have hw := hw.ps [2]
  repeat (first | refine byW ?_ | (refine byV ?_; intro w hw))
  refine L_step rfl rfl (s_insert (s_mapUpdate (P := Tryz.prog) (K := 3) (α := Int) (f := fun n : Int => Value.int .i64 n) (i := 1) (v := (0 : Int)) (a := r) hw rfl rfl rfl rfl fun w hw => ?_))
  have hm0 : MapF (aSet ([] : List (Int × Int)) r 0) (fun _ => 0) := fun x => by
    rw [aGet_aSet]; split <;> rfl
  generalize hls : aSet ([] : List (Int × Int)) r 0 = ls at hm0
  have hw : Wd Γ (.blk b4 (.cells #[.int .i64 r, .slice am nm cm] 32) :: Res.mpT Tryz.prog 3 (fun n : Int => Value.int .i64 n) bs ls :: btwP bb H a1 n1 c1 a2 n2 c2 a3 n3 c3 a4 n4 c4 a5 n5 c5 :: .blk b3 (.cells #[.string H.Name, .slice a1 n1 c1, .slice a2 n2 c2, .slice a3 n3 c3, .slice a4 n4 c4, .slice a5 n5 c5] 28) :: S) w := by rw [← hls]; exact hw
  clear hls
  repeat (first | refine byW ?_ | (refine byV ?_; intro w hw))
  refine L_step rfl rfl (s_makeMap (K := 3) (α := Int) (f := fun n : Int => Value.int .i64 n) hw fun bn w hw => ?_)
  have hw := hw.ps [1]
  repeat (first | refine byW ?_ | (refine byV ?_; intro w hw))
  refine lMakeSlice (len := nm) ?_
  intro ao w hw
  have hw : Wd Γ (.own (.slice (some ao) nm nm) 3 1 (intRows (List.replicate nm 0)) :: .blk b4 (.cells #[.int .i64 r, .slice am nm cm] 32) :: Res.mpT Tryz.prog 3 (fun n : Int => Value.int .i64 n) bn ([] : List (Int × Int)) :: Res.mpT Tryz.prog 3 (fun n : Int => Value.int .i64 n) bs ls :: btwP bb H a1 n1 c1 a2 n2 c2 a3 n3 c3 a4 n4 c4 a5 n5 c5 :: .blk b3 (.cells #[.string H.Name, .slice a1 n1 c1, .slice a2 n2 c2, .slice a3 n3 c3, .slice a4 n4 c4, .slice a5 n5 c5] 28) :: S) w := by
    have e : intRows (List.replicate nm 0) = List.replicate nm [.int .i64 0] := by unfold intRows; rw [List.map_replicate]
    rw [e]; exact hw
  repeat (first | refine byW ?_ | (refine byV ?_; intro w hw))
  refine W_loop (fun μ ρ w => ∃ (k : Nat) (st sn : Int → Int) (O : List Int) (ls ln : List (Int × Int)), μ + k = nm ∧ O.length = nm ∧ MapF ls st ∧ MapF ln sn ∧ (∀ x, 0 ≤ st x ∧ st x ≤ k * 2000000000) ∧ (∀ x, 0 ≤ sn x ∧ sn x ≤ k) ∧ O.take k ++ arrF (farI H) cost st sn (es.drop k) = arrF (farI H) cost (fun _ => 0) (fun _ => 0) es ∧ Has ρ [(2, .int .i64 cost), (9, .pointer (some ⟨bb, 0, none⟩)), (10, .map (some bs)), (11, .map (some bn)), (12, .slice (some ao) nm nm), (41, .slice am nm cm), (42, .int .i64 nm), (43, .int .i64 k)] ∧ Wd Γ (.own (.slice (some ao) nm nm) 3 1 (intRows O) :: .blk b4 (.cells #[.int .i64 r, .slice am nm cm] 32) :: Res.mpT Tryz.prog 3 (fun n : Int => Value.int .i64 n) bn ln :: Res.mpT Tryz.prog 3 (fun n : Int => Value.int .i64 n) bs ls :: btwP bb H a1 n1 c1 a2 n2 c2 a3 n3 c3 a4 n4 c4 a5 n5 c5 :: .blk b3 (.cells #[.string H.Name, .slice a1 n1 c1, .slice a2 n2 c2, .slice a3 n3 c3, .slice a4 n4 c4, .slice a5 n5 c5] 28) :: S) w) nm ⟨0, fun _ => 0, fun _ => 0, List.replicate nm 0, ls, [], by omega, by simp, hm0, fun _ => rfl, fun _ => ⟨Int.le_refl _, by simp⟩, fun _ => ⟨Int.le_refl _, by simp⟩, by simp, ⟨rfl, rfl, rfl, rfl, rfl, rfl, rfl, rfl, trivial⟩, hw⟩ ?_
  clear hw
  rintro μ ρ w ⟨k, st, sn, O, ls, ln, hk, hO, hls, hln, hst, hsn, hF, hρ, hw⟩
  rw [hρ.eq]
  clear hρ
  repeat (first | refine byW ?_ | (refine byV ?_; intro w hw))
  refine W_cond rfl (fun h => ?_) (fun h => ?_)
  · have hkn' : k < nm := by have := of_decide_eq_true h; omega
    obtain ⟨x, hx⟩ := get_lt (l := es) (k := k) (by omega)
    obtain ⟨hx1, hx2⟩ := hkn x (List.mem_of_getElem? hx)
    have hs1 := hst x.1
    have hn1 := hsn x.1
    have hfar := far_le hv hx1 hx2
    have hmul : 0 ≤ (sn x.1 + 1) * cost ∧ (sn x.1 + 1) * cost ≤ 1001000000 := ⟨Int.mul_nonneg (by omega) hc.1, Int.le_trans (Int.mul_le_mul (b := cost) (d := 1000000) (show sn x.1 + 1 ≤ 1001 by omega) hc.2 hc.1 (by omega)) (by omega)⟩
    repeat (first | refine byW ?_ | (refine byV ?_; intro w hw))
    refine lAlloc ?_
    intro b14 w hw
    repeat (first | refine byW ?_ | (refine byV ?_; intro w hw))
    refine lStore ?_
    intro w hw
    have hw : Wd Γ (.blk b14 (.cells (plV x).toArray 60) :: .own (.slice (some ao) nm nm) 3 1 (intRows O) :: .blk b4 (.cells #[.int .i64 r, .slice am nm cm] 32) :: Res.mpT Tryz.prog 3 (fun n : Int => Value.int .i64 n) bn ln :: Res.mpT Tryz.prog 3 (fun n : Int => Value.int .i64 n) bs ls :: btwP bb H a1 n1 c1 a2 n2 c2 a3 n3 c3 a4 n4 c4 a5 n5 c5 :: .blk b3 (.cells #[.string H.Name, .slice a1 n1 c1, .slice a2 n2 c2, .slice a3 n3 c3, .slice a4 n4 c4, .slice a5 n5 c5] 28) :: S) w := hw
    repeat (first | refine byW ?_ | (refine byV ?_; intro w hw))
    refine lY (v := .int .i64 (sn x.1)) ?_ (hy := y_lookupF hw hln (i := 3) rfl rfl rfl)
    repeat (first | refine byW ?_ | (refine byV ?_; intro w hw))
    refine L_step rfl rfl (s_mapUpdate (P := Tryz.prog) (K := 3) (α := Int) (f := fun n : Int => Value.int .i64 n) (i := 3) (v := sn x.1 + 1) (a := x.1) hw rfl rfl rfl rfl fun w hw => ?_)
    have hln' := mapF_set hln x.1 (sn x.1 + 1)
    generalize hgl : aSet ln x.1 (sn x.1 + 1) = ln2 at hw hln'
    have hsn2 : updI sn x.1 (sn x.1 + 1) x.1 = sn x.1 + 1 := by unfold updI; rw [if_pos rfl]
    have hcN1 := coreN_rng hv hx1
    have hcN2 := coreN_rng hv hx2
    have hw : Wd Γ ([.blk b14 (.cells (plV x).toArray 60), Res.mpT Tryz.prog 3 (fun n : Int => Value.int .i64 n) bn ln2, Res.mpT Tryz.prog 3 (fun n : Int => Value.int .i64 n) bs ls] ++ ([btwP bb H a1 n1 c1 a2 n2 c2 a3 n3 c3 a4 n4 c4 a5 n5 c5] ++ ([.own (.slice (some ao) nm nm) 3 1 (intRows O)] ++ ((.blk b4 (.cells #[.int .i64 r, .slice am nm cm] 32) :: .blk b3 (.cells #[.string H.Name, .slice a1 n1 c1, .slice a2 n2 c2, .slice a3 n3 c3, .slice a4 n4 c4, .slice a5 n5 c5] 28) :: S) ++ [])))) w := by
      rw [List.append_nil]
      exact hw.ps [5, 5, 5, 3]
    repeat (first | refine byW ?_ | (refine byV ?_; intro w hw))
    refine W_mixed [.blk b14 (.cells (plV x).toArray 60), Res.mpT Tryz.prog 3 (fun n : Int => Value.int .i64 n) bn ln2, Res.mpT Tryz.prog 3 (fun n : Int => Value.int .i64 n) bs ls] [fun _ => [btwP bb H a1 n1 c1 a2 n2 c2 a3 n3 c3 a4 n4 c4 a5 n5 c5], fun _ => [.own (.slice (some ao) nm nm) 3 1 (intRows O)], fun _ => .blk b4 (.cells #[.int .i64 r, .slice am nm cm] 32) :: .blk b3 (.cells #[.string H.Name, .slice a1 n1 c1, .slice a2 n2 c2, .slice a3 n3 c3, .slice a4 n4 c4, .slice a5 n5 c5] 28) :: S] [[],[],[],[],[],[],[],[],[],[],[],[],[],[],[],[],[],[],[0],[],[],[1]] [[],[],[],[],[],[],[],[],[],[],[],[],[],[],[],[],[],[],[0],[],[1],[1]] [[], [], []] (by exact hw) ?_
    repeat (first | refine mY ?_ | refine mP ?_ | refine mPg ?_)
    refine mY (v := .int .i64 (st x.1)) ?_ (hy := fun Y w g hw => y_lookupF hw hls (i := 2) rfl rfl rfl)
    repeat (first | refine mY ?_ | refine mP ?_ | refine mPg ?_)
    refine mY (v := .int .i64 (sn x.1 + 1)) ?_ (hy := fun Y w g hw => by rw [← hsn2]; exact y_lookupF hw hln' (i := 1) rfl rfl rfl)
    repeat (first | refine mY ?_ | refine mP ?_ | refine mPg ?_)
    refine mCallS (c := 0) (X := [btwP bb H a1 n1 c1 a2 n2 c2 a3 n3 c3 a4 n4 c4 a5 n5 c5]) [btwP bb H a1 n1 c1 a2 n2 c2 a3 n3 c3 a4 n4 c4 a5 n5 c5] (vs := [.pointer (some ⟨bb, 0, none⟩), .int .i64 x.1, .int .i64 x.2]) (v := .int .i64 (farI H x.1 x.2)) (fun R w hw => coresP_any (valid_links hv) hcN1 hcN2 hw) ?_
    repeat (first | refine mY ?_ | refine mP ?_ | refine mPg ?_)
    refine mStoreE (k := k) (r := [.int .i64 (st x.1 + (sn x.1 + 1) * cost + farI H x.1 x.2)]) ?_
    refine mEnd fun w g hw => ?_
    generalize ht : st x.1 + (sn x.1 + 1) * cost + farI H x.1 x.2 = t at hw
    have hw : Wd Γ ([.blk b14 (.cells (plV x).toArray 60), Res.mpT Tryz.prog 3 (fun n : Int => Value.int .i64 n) bn ln2, Res.mpT Tryz.prog 3 (fun n : Int => Value.int .i64 n) bs ls] ++ ([btwP bb H a1 n1 c1 a2 n2 c2 a3 n3 c3 a4 n4 c4 a5 n5 c5] ++ ([.own (.slice (some ao) nm nm) 3 1 (intRows (O.set k t))] ++ ((.blk b4 (.cells #[.int .i64 r, .slice am nm cm] 32) :: .blk b3 (.cells #[.string H.Name, .slice a1 n1 c1, .slice a2 n2 c2, .slice a3 n3 c3, .slice a4 n4 c4, .slice a5 n5 c5] 28) :: S) ++ [])))) w := by
      have e : intRows (O.set k t) = (intRows O).set k [.int .i64 t] := by unfold intRows; rw [List.map_set]
      rw [e]; exact hw
    rw [List.append_nil] at hw
    have hOk : (O.set k t)[k]? = some t := by rw [List.getElem?_set, if_pos rfl, if_pos (by omega)]
    have hw : Wd Γ ([.blk b14 (.cells (plV x).toArray 60), .own (.slice (some ao) nm nm) 3 1 (intRows (O.set k t))] ++ ([Res.mpT Tryz.prog 3 (fun n : Int => Value.int .i64 n) bs ls] ++ ((Res.mpT Tryz.prog 3 (fun n : Int => Value.int .i64 n) bn ln2 :: btwP bb H a1 n1 c1 a2 n2 c2 a3 n3 c3 a4 n4 c4 a5 n5 c5 :: .blk b4 (.cells #[.int .i64 r, .slice am nm cm] 32) :: .blk b3 (.cells #[.string H.Name, .slice a1 n1 c1, .slice a2 n2 c2, .slice a3 n3 c3, .slice a4 n4 c4, .slice a5 n5 c5] 28) :: S) ++ []))) w := by
      rw [List.append_nil]
      exact (hw.ps [1, 2, 4, 3])
    repeat (first | refine byW ?_ | (refine byV ?_; intro w hw))
    refine W_mixed [.blk b14 (.cells (plV x).toArray 60), .own (.slice (some ao) nm nm) 3 1 (intRows (O.set k t))] [fun _ => [Res.mpT Tryz.prog 3 (fun n : Int => Value.int .i64 n) bs ls], fun _ => Res.mpT Tryz.prog 3 (fun n : Int => Value.int .i64 n) bn ln2 :: btwP bb H a1 n1 c1 a2 n2 c2 a3 n3 c3 a4 n4 c4 a5 n5 c5 :: .blk b4 (.cells #[.int .i64 r, .slice am nm cm] 32) :: .blk b3 (.cells #[.string H.Name, .slice a1 n1 c1, .slice a2 n2 c2, .slice a3 n3 c3, .slice a4 n4 c4, .slice a5 n5 c5] 28) :: S] [[],[],[],[],[],[],[],[0]] [[],[],[],[],[],[],[],[0]] [[], []] (by exact hw) ?_
    repeat (first | refine mY ?_ | refine mP ?_ | refine mPg ?_)
    refine mM (v := undef) (fun _ => [Res.mpT Tryz.prog 3 (fun n : Int => Value.int .i64 n) bs (aSet ls x.2 t)]) (fun Y w g hw => by
      rw [cells1 (c := 0) rfl] at hw
      refine s_mapUpdate (P := Tryz.prog) (K := 3) (α := Int) (f := fun n : Int => Value.int .i64 n) (i := 2) (v := t) (a := x.2) hw rfl rfl rfl rfl fun w hw => ⟨?_, fun _ => rfl⟩
      rw [cells1 (c := 0) rfl, setC_self]
      exact hw) ?_ rfl rfl
    refine mEnd fun w g hw => ?_
    have hls' := mapF_set hls x.2 t
    have hw : Wd Γ ([.blk b14 (.cells (plV x).toArray 60), .own (.slice (some ao) nm nm) 3 1 (intRows (O.set k t))] ++ ([Res.mpT Tryz.prog 3 (fun n : Int => Value.int .i64 n) bs (aSet ls x.2 t)] ++ ((Res.mpT Tryz.prog 3 (fun n : Int => Value.int .i64 n) bn ln2 :: btwP bb H a1 n1 c1 a2 n2 c2 a3 n3 c3 a4 n4 c4 a5 n5 c5 :: .blk b4 (.cells #[.int .i64 r, .slice am nm cm] 32) :: .blk b3 (.cells #[.string H.Name, .slice a1 n1 c1, .slice a2 n2 c2, .slice a3 n3 c3, .slice a4 n4 c4, .slice a5 n5 c5] 28) :: S) ++ []))) w := hw
    rw [List.append_nil] at hw
    have hw : Wd Γ (.own (.slice (some ao) nm nm) 3 1 (intRows (O.set k t)) :: .blk b4 (.cells #[.int .i64 r, .slice am nm cm] 32) :: Res.mpT Tryz.prog 3 (fun n : Int => Value.int .i64 n) bn ln2 :: Res.mpT Tryz.prog 3 (fun n : Int => Value.int .i64 n) bs (aSet ls x.2 t) :: btwP bb H a1 n1 c1 a2 n2 c2 a3 n3 c3 a4 n4 c4 a5 n5 c5 :: .blk b3 (.cells #[.string H.Name, .slice a1 n1 c1, .slice a2 n2 c2, .slice a3 n3 c3, .slice a4 n4 c4, .slice a5 n5 c5] 28) :: S) w := (Wd.drop hw).ps [2, 4, 2]
    have hF' : (O.set k t).take (k + 1) ++ arrF (farI H) cost (updI st x.2 t) (updI sn x.1 (sn x.1 + 1)) (es.drop (k + 1)) = arrF (farI H) cost (fun _ => 0) (fun _ => 0) es := by
      have hdr : es.drop k = x :: es.drop (k + 1) := by
        obtain ⟨q1, q2⟩ := List.getElem?_eq_some_iff.1 hx
        rw [List.drop_eq_getElem_cons q1, q2]
      rw [← hF, hdr, take_succ_of hOk, List.take_set_of_le (Nat.le_refl k), List.append_assoc]
      conv => rhs; unfold arrF
      rw [ht]; rfl
    have hB1 : ∀ z, 0 ≤ updI st x.2 t z ∧ updI st x.2 t z ≤ ((k + 1 : Nat) : Int) * 2000000000 := fun z => by
      have := hst z
      unfold updI; split
      · omega
      · omega
    have hB2 : ∀ z, 0 ≤ updI sn x.1 (sn x.1 + 1) z ∧ updI sn x.1 (sn x.1 + 1) z ≤ ((k + 1 : Nat) : Int) := fun z => by
      have := hsn z
      unfold updI; split
      · omega
      · omega
    repeat (first | refine byW ?_ | (refine byV ?_; intro w hw))
    exact ⟨μ - 1, by omega, k + 1, updI st x.2 t, updI sn x.1 (sn x.1 + 1), O.set k t, aSet ls x.2 t, ln2, by omega, by simp [hO], hls', hln', hB1, hB2, hF', ⟨rfl, rfl, rfl, rfl, rfl, rfl, rfl, rfl, trivial⟩, hw⟩
  · have hkn' : ¬ k < nm := by have := of_decide_eq_false h; omega
    rw [List.drop_eq_nil_of_le (by omega), List.take_of_length_le (by omega)] at hF
    have hF : O = arrF (farI H) cost (fun _ => 0) (fun _ => 0) es := by rw [← hF]; unfold arrF; simp
    repeat (first | refine byW ?_ | (refine byV ?_; intro w hw))
    refine ⟨_, rfl, _, rfl, ?_⟩
    rw [← hF]
    exact hw.ds [1, 1, 1, 1, 1]
end Go.Proofs.YteiijmclobggjaaGreat
end
/- Completion, walked. -/
section
open Go Mk
namespace Go.Proofs.YteiijmclobggjaaGreat

noncomputable def compS (H : HwT) (r : Int) (es : List Pl) (cost : Int) : Int := if (arrS H r es cost).2 = 0 then (arrS H r es cost).1.foldl max 0 else 0
theorem arrS_len {H : HwT} {r cost : Int} {es : List Pl} : (arrS H r es cost).1.length ≤ es.length := by
  unfold arrS
  split
  · split
    · simp
    · rw [arrF_len]; exact Nat.le_refl _
  · simp
instance pg_Completion {Γ : Gho} {u v : Value} {H : HwT} [hh : HwR Γ u H] {es : List Pl} [hr : SlC Γ v 2 (es.map plV)] [hsh : ShortL es] (r cost : Int) : PG Tryz.prog Γ 15 [u, .agg #[.int .i64 r, v], .int .i64 cost] (.tuple #[.int .i64 (compS H r es cost), .int .i64 (arrS H r es cost).2]) := ⟨fun S w hw => by
  obtain ⟨am, nm, cm, rfl, -⟩ := hr.h.shape
  have hl := hsh.h
  exact completion_of (l := (arrS H r es cost).1) (Nat.le_trans arrS_len hl) (fun S w hw => arrivals_any r cost hw) hw⟩
end Go.Proofs.YteiijmclobggjaaGreat
end
/- Arrivals, in plain words; the plan completes no later than after an exchange. -/
section
open Go Mk
namespace Go.Proofs.YteiijmclobggjaaGreat

/-! ### when an edge arrives -/
def stL (l : List (Pl × Int)) (st : Int → Int) : Int → Int := l.foldl (fun f p => updI f p.1.2 p.2) st
theorem stL_none : ∀ {l : List (Pl × Int)} {st : Int → Int} {x : Int}, (∀ p ∈ l, p.1.2 ≠ x) → stL l st x = st x
  | [], _, _, _ => rfl
  | p :: l, st, x, h => by
    show stL l (updI st p.1.2 p.2) x = _
    rw [stL_none fun q hq => h q (by simp [hq])]
    unfold updI
    rw [if_neg (h p (by simp))]
theorem stL_some : ∀ {l : List (Pl × Int)} {st : Int → Int} {x : Int} {q : Nat} {p : Pl × Int}, l[q]? = some p → p.1.2 = x → (l.map (·.1.2)).Nodup → stL l st x = p.2
  | [], _, _, _, _, h, _, _ => by simp at h
  | p0 :: l, st, x, 0, p, h, hx, hn => by
    simp at h
    subst h
    rw [List.map_cons, List.nodup_cons] at hn
    show stL l (updI st p0.1.2 p0.2) x = _
    rw [stL_none fun q hq e => hn.1 (by rw [hx, ← e]; exact List.mem_map_of_mem hq)]
    unfold updI
    rw [if_pos hx]
  | p0 :: l, st, x, q + 1, p, h, hx, hn => by
    rw [List.map_cons, List.nodup_cons] at hn
    show stL l (updI st p0.1.2 p0.2) x = _
    exact stL_some (q := q) (by simpa using h) hx hn.2
theorem arr_at {far : Int → Int → Int} {cost : Int} : ∀ {es : List Pl} {st sn : Int → Int} {m : Nat} {e : Pl}, es[m]? = some e →
    (arrF far cost st sn es)[m]? = some (stL ((es.zip (arrF far cost st sn es)).take m) st e.1 + (sn e.1 + (cntF es m e.1 : Int) + 1) * cost + far e.1 e.2)
  | [], _, _, _, _, h => by simp at h
  | e0 :: es, st, sn, 0, e, h => by
    simp at h
    subst h
    unfold arrF cntF stL
    simp
  | e0 :: es, st, sn, m + 1, e, h => by
    have ih := arr_at (far := far) (cost := cost) (es := es) (st := updI st e0.2 (st e0.1 + (sn e0.1 + 1) * cost + far e0.1 e0.2)) (sn := updI sn e0.1 (sn e0.1 + 1)) (m := m) (e := e) (by simpa using h)
    unfold arrF
    rw [List.getElem?_cons_succ, ih]
    have h2 : updI sn e0.1 (sn e0.1 + 1) e.1 + (cntF es m e.1 : Int) = sn e.1 + (cntF (e0 :: es) (m + 1) e.1 : Int) := by
      unfold updI cntF
      rw [List.take_succ_cons]
      by_cases c : e0.1 = e.1
      · rw [if_pos c, List.countP_cons_of_pos (by simpa using c), c]
        omega
      · rw [if_neg c, List.countP_cons_of_neg (by simpa using c)]
    rw [h2]
    rfl
section
variable {far : Int → Int → Int} {cost : Int}
def arr0 (far : Int → Int → Int) (cost : Int) (es : List Pl) : List Int := arrF far cost (fun _ => 0) (fun _ => 0) es
theorem arr0_len {es : List Pl} : (arr0 far cost es).length = es.length := arrF_len _ _ _ _ _
/-- An edge whose sender is reached by no edge ahead. -/
theorem arr0_root {es : List Pl} {m : Nat} {e : Pl} (he : es[m]? = some e) (hr : ∀ p ∈ es, p.2 ≠ e.1) : (arr0 far cost es)[m]? = some (((cntF es m e.1 : Int) + 1) * cost + far e.1 e.2) := by
  have h := arr_at (far := far) (cost := cost) (st := fun _ => 0) (sn := fun _ => 0) he
  have h0 : stL ((es.zip (arr0 far cost es)).take m) (fun _ => 0) e.1 = 0 := stL_none fun p hp => hr p.1 (List.of_mem_zip (List.mem_of_mem_take hp)).1
  unfold arr0 at h0 ⊢
  rw [h, h0]
  simp
theorem arr0_next {es : List Pl} {m q : Nat} {e d : Pl} {v : Int} (he : es[m]? = some e) (hd : es[q]? = some d) (hq : q < m) (hde : d.2 = e.1) (hv : (arr0 far cost es)[q]? = some v) (hn : (es.map (·.2)).Nodup) : (arr0 far cost es)[m]? = some (v + ((cntF es m e.1 : Int) + 1) * cost + far e.1 e.2) := by
  have h := arr_at (far := far) (cost := cost) (st := fun _ => 0) (sn := fun _ => 0) he
  have hz : (es.zip (arr0 far cost es))[q]? = some (d, v) := by
    rw [List.getElem?_zip_eq_some]
    exact ⟨hd, hv⟩
  have h0 : stL ((es.zip (arr0 far cost es)).take m) (fun _ => 0) e.1 = v := by
    refine stL_some (q := q) (p := (d, v)) ?_ hde ?_
    · rw [List.getElem?_take, if_pos hq]; exact hz
    · rw [List.map_take]
      refine hn.sublist ?_
      refine (List.take_sublist _ _).trans ?_
      have : (es.zip (arr0 far cost es)).map (fun p => p.1.2) = ((es.zip (arr0 far cost es)).map Prod.fst).map (·.2) := by rw [List.map_map]; rfl
      rw [this, List.map_fst_zip (by rw [arr0_len]; exact Nat.le_refl _)]
      exact List.Sublist.refl _
  unfold arr0 at h0 ⊢
  rw [h, h0]
  simp
/-! ### the greatest -/
end

end Go.Proofs.YteiijmclobggjaaGreat
end
/- Numbers drawn from a list. -/
section
open Go Mk
namespace Go.Proofs.YteiijmclobggjaaGreat
set_option maxHeartbeats 8000000
attribute [local irreducible] Calls
section
variable {P : Program} {n : Nat} {ops : List Oper} {Γ : Gho} {K : List Res} {wr tc stab : List (List Nat)} {Q : Fr → World → Prop} {i : Nat} {rest : List Oper} {ρ : Fr} {M : Nat → Fr → List Res}
end

/-- The number that is drawn as number k. -/
def nx (L : List Int) (k : Nat) (n : Int) : Int := ((if L = [] then 0 else (L.getD (k % L.length) 0) % 1073741824) + 7 * ((k / max L.length 1 : Nat) : Int)) % n
end Go.Proofs.YteiijmclobggjaaGreat
end
/- Lists of IDs, and sorting by exchanges of neighbours. -/
section
open Go Mk
namespace Go.Proofs.YteiijmclobggjaaGreat
set_option maxHeartbeats 8000000
attribute [local irreducible] Calls
/-- An element sinks to its place by exchanges with its left neighbour. -/
def bub {α : Type} (lt : α → α → Bool) : Nat → List α → List α
  | 0, l => l
  | k + 1, l => match l[k + 1]?, l[k]? with
    | some x, some y => if lt x y = true then bub lt k ((l.set (k + 1) y).set k x) else l
    | _, _ => l
theorem bub_step {α : Type} {lt : α → α → Bool} {k : Nat} {l : List α} {x y : α} (hx : l[k + 1]? = some x) (hy : l[k]? = some y) (h : lt x y = true) : bub lt (k + 1) l = bub lt k ((l.set (k + 1) y).set k x) := by
  unfold bub; rw [hx, hy]; simp only [if_pos h]; cases k <;> rfl
theorem bub_stop {α : Type} {lt : α → α → Bool} {k : Nat} {l : List α} {x y : α} (hx : l[k + 1]? = some x) (hy : l[k]? = some y) (h : ¬ lt x y = true) : bub lt (k + 1) l = l := by
  unfold bub; rw [hx, hy]; simp only [if_neg h]
theorem ints_one (xs : List Int) : (intRows xs).flatten.all (·.oneCell') = true := by
  unfold intRows
  induction xs with
  | nil => rfl
  | cons x l ih => simp only [List.map_cons, List.flatten_cons, List.all_append, ih]; rfl
theorem set_rows {xs : List Int} {k : Nat} {x : Int} : (intRows xs).set k [.int .i64 x] = intRows (xs.set k x) := by unfold intRows; rw [List.map_set]
end Go.Proofs.YteiijmclobggjaaGreat
end
/- What the descriptions made of numbers are like. -/
section
open Go Mk
namespace Go.Proofs.YteiijmclobggjaaGreat
set_option maxHeartbeats 8000000
attribute [local irreducible] Calls
/-! ### one more of each -/
end Go.Proofs.YteiijmclobggjaaGreat
end
/- Sorting by exchanges: what comes out is sorted and has the same elements. -/
section
open Go Mk
namespace Go.Proofs.YteiijmclobggjaaGreat
set_option maxHeartbeats 4000000
attribute [local irreducible] Calls
end Go.Proofs.YteiijmclobggjaaGreat
end
/- The descriptions made of numbers are valid: names, counts, numbers, alignment. -/
section
open Go Mk
namespace Go.Proofs.YteiijmclobggjaaGreat
set_option maxHeartbeats 4000000
attribute [local irreducible] Calls
section
variable {H : HwT} {nodes sh first irq : Int}
end
end Go.Proofs.YteiijmclobggjaaGreat
end
/- The descriptions made of numbers are valid: nothing twice, nesting, disjoint regions, connected nodes. -/
section
open Go Mk
namespace Go.Proofs.YteiijmclobggjaaGreat
set_option maxHeartbeats 4000000
attribute [local irreducible] Calls
section
variable {H : HwT} {nodes sh first irq : Int}
theorem nodup_get {α : Type} : ∀ {l : List α}, l.Nodup → ∀ {i j : Nat} {x : α}, l[i]? = some x → l[j]? = some x → i = j
  | [], _, i, j, x, h, _ => by simp at h
  | a :: l, h, 0, 0, x, _, _ => rfl
  | a :: l, h, 0, j + 1, x, h1, h2 => by
    simp at h1 h2; subst h1
    exact absurd (List.mem_of_getElem? h2) (List.nodup_cons.1 h).1
  | a :: l, h, i + 1, 0, x, h1, h2 => by
    simp at h1 h2; subst h2
    exact absurd (List.mem_of_getElem? h1) (List.nodup_cons.1 h).1
  | a :: l, h, i + 1, j + 1, x, h1, h2 => by
    simp at h1 h2
    rw [nodup_get (List.nodup_cons.1 h).2 h1 h2]
end
end Go.Proofs.YteiijmclobggjaaGreat
end
/- Exchanging two edges of one sender leaves a tree valid, and completes a plan no earlier. -/
section
open Go Mk
namespace Go.Proofs.YteiijmclobggjaaGreat

/-! ### arrivals of a tree of two levels -/
section
variable {far : Int → Int → Int} {cost : Int} {r : Int} {es : List Pl}
end

/-! ### the plan -/
section
variable {H : HwT} {r : Int} {ms : List Int} {cost : Int}
end
end Go.Proofs.YteiijmclobggjaaGreat
end
/- A call that changes one cell of a drawn region in a known way, and reads what is kept beside it. -/
section
open Go
namespace Mk
attribute [local irreducible] Calls
section
variable {P : Program} {n : Nat} {ops : List Oper} {Γ : Gho} {K : List Res} {wr tc stab : List (List Nat)} {Q : Fr → World → Prop} {i : Nat} {rest : List Oper} {ρ : Fr} {M : Nat → Fr → List Res}
variable {d : Option Tmp} {ty : TypeId} {pos : String} {es : Array Edge} {f : Nat} {args : List Operand} {tys : Array TypeId} {vs : List Value} {v : Value}
theorem mCallSK {c : Nat} {X : List Res} (X' : List Res) [FnOk P f] (hs : ∀ Y w, Wd Γ (X ++ (K ++ Y)) w → Calls P f vs.toArray w fun e w' => e = .returned v ∧ Wd Γ (X' ++ (K ++ Y)) w')
    (h : MSw (mV P n ops Γ K wr tc stab) Q (i + 1) rest ⟨putO ρ d v, setC M c fun _ => X'⟩) (hM : M c = fun _ => X := by first | exact setC_self | exact ml1 | exact ml2 | exact rfl) (hw0 : wr.getD i [] = [c] := by exact rfl) (ht : tc.getD i [] = [c] := by exact rfl) (ha : ∀ g, EvL (ovr stab.flatten g ρ) args vs := by intro g; exact byEV) :
    MSw (mV P n ops Γ K wr tc stab) Q i (⟨d, .call { callee := .value (.func f), args := args.toArray, argTypes := tys }, ty, pos, es, none⟩ :: rest) ⟨ρ, M⟩ :=
  mS (F := fun _ => X) (fun _ => X') (fun g w Y hw => s_call (ha g).eqA ((hs Y w hw).mono fun e w' ⟨h1, h2⟩ => ⟨v, h1, fun _ => rfl, h2⟩)) h hM hw0 ht rfl
variable {x y : Operand} {T : TypeId}
/-- An append of what is kept onto a slice of the cell. -/
theorem mAppK {c dd j E by' sz m cc m2 c3 : Nat} {zs : List Value} {a a2 : Option Addr} {rows rows2 : List (List Value)} {X : List Res} [TL P T E sz by' zs] (h : MSw (mV P n ops Γ K wr tc stab) Q (i + 1) rest ⟨putO ρ (some dd) undef, setC M c fun g => X.set j (.own (g dd) E sz (rows ++ rows2))⟩)
    (hrd : ∀ Y w, Wd Γ (K ++ Y) w → Rd w a2 sz rows2) (hl : m2 = rows2.length) (h1 : ∀ u ∈ rows2.flatten, u.oneCell' = true)
    (hx : ∀ g, ev (ovr stab.flatten g ρ) x = .slice a m cc := by intro g; exact rfl) (hy : ∀ g, ev (ovr stab.flatten g ρ) y = .slice a2 m2 c3 := by intro g; exact rfl) (ht : tc.getD i [] = [c] := by exact rfl) (hM : M c = (fun _ => X) := by exact rfl) (hj : X[j]? = some (.own (.slice a m cc) E sz rows) := by exact byIX)
    (hs : (stab.getD c []).contains dd = true := by exact rfl) (hfr : freeD stab (some dd) = true := by exact rfl) (hw0 : wr.getD i [] = [c] := by exact rfl)
    (hb : (m + m2) * by' ≤ 140737488355328 := by omega) (h63 : m + m2 ≤ 9223372036854775807 := by omega) :
    MSw (mV P n ops Γ K wr tc stab) Q i (⟨some dd, .call { callee := .builtin .append, args := #[x, y], argTypes := #[T, T] }, ty, pos, es, none⟩ :: rest) ⟨ρ, M⟩ := by
  refine mM (v := undef) _ (fun Y w g hw => ?_) h hw0 rfl
  rw [cells1 ht, hM] at hw
  have hjl : j < X.length := (List.getElem?_eq_some_iff.1 hj).1
  have hi1 : (K ++ (X ++ Y))[K.length + j]? = some (.own (.slice a m cc) E sz rows) := by
    rw [List.getElem?_append_right (Nat.le_add_right _ _), Nat.add_sub_cancel_left, List.getElem?_append_left hjl]; exact hj
  refine s_append hw (hx g) (hy g) hi1 (hrd _ _ hw) hl h1 hb h63 fun v' w' hw' => ⟨?_, fun hh => by rw [hfr] at hh; cases hh⟩
  rw [cells1 ht, setC_self]
  have h3 : ovr (stab.getD c []) (putO g (some dd) v') noFr dd = v' := by
    rw [ovr_in (by simpa using hs)]; exact upd_same _ _ _
  simp only [h3]
  rw [List.set_append_right _ _ (Nat.le_add_right _ _), Nat.add_sub_cancel_left, List.set_append_left _ _ hjl] at hw'
  exact hw'
end
/-- Permutations of lists that are built alike. -/
theorem perm_count {α : Type} {l l' : List α} (h : ∀ (_ : DecidableEq α) (a : α), l.count a = l'.count a) : l.Perm l' := by
  classical
  exact List.perm_iff_count.2 fun a => h _ a
theorem byPM {l l' : List Res} (h : ∀ (_ : DecidableEq Res) (a : Res), l.count a = l'.count a := by intro _ a; simp only [psL, pullL, List.getElem?_cons_zero, List.getElem?_cons_succ, List.eraseIdx_cons_succ, List.eraseIdx_cons_zero, List.cons_append, List.nil_append, List.count_append, List.count_cons, List.count_nil, List.map_cons, List.map_nil, Nat.add_zero, Nat.zero_add]; ac_rfl) : l.Perm l' := perm_count h
end Mk
end
/- The frame is set anew in the middle of a region. -/
section
open Go
namespace Mk
theorem L_has {P : Program} {n : Nat} {ops : Array Oper} {Q : Exit → Fr → World → Prop} {rest : List Oper} {ρ : Fr} {w : World} {l : List (Nat × Value)} (h : Has ρ l) (k : ∀ ρ', Has ρ' l → L P n ops Q rest ρ' w) : L P n ops Q rest ρ w := k ρ h
theorem val_b {v : Value} {a b : Bool} (h : v = .bool a) (hab : a = b) : v = .bool b := by rw [h, hab]
section
variable {P : Program} {n : Nat} {ops : List Oper} {Γ : Gho} {K : List Res} {Q : Fr → World → Prop} {ρ : Fr} {rest : List Oper} {wr tc stab : List (List Nat)} {i : Nat} {M : Nat → Fr → List Res}
variable {ty : TypeId} {pos : String} {es : Array Edge}
/-- What a cell says of one open slot is said of another, to which it is assigned. -/
theorem mAssG {c dx dd : Nat} (F : Value → List Res) (h : MSw (mV P n ops Γ K wr tc stab) Q (i + 1) rest ⟨putO ρ (some dd) undef, setC M c fun g => F (g dd)⟩)
    (ht : tc.getD i [] = [c] := by exact rfl) (hM : M c = (fun g => F (g dx)) := by first | exact setC_self | exact rfl)
    (hs : (stab.getD c []).contains dd = true := by exact rfl) (hsx : (stab.getD c []).contains dx = true := by exact rfl) (hfx : stab.flatten.contains dx = true := by exact rfl) (hfr : freeD stab (some dd) = true := by exact rfl) (hw0 : wr.getD i [] = [c] := by exact rfl) :
    MSw (mV P n ops Γ K wr tc stab) Q i (⟨some dd, .assign (.tmp dx), ty, pos, es, none⟩ :: rest) ⟨ρ, M⟩ := by
  refine mM (v := undef) _ (fun Y w g hw => ?_) h hw0 rfl
  rw [cells1 ht, hM] at hw
  have h2 : ovr (stab.getD c []) g noFr dx = g dx := ovr_in (by simpa using hsx)
  simp only [h2] at hw
  have hx : ev (ovr stab.flatten g ρ) (.tmp dx) = g dx := by
    show ovr stab.flatten g ρ dx = _
    rw [ovr_in (by simpa using hfx)]
  refine (y_assign (P := P) (w := w) hx).step ⟨?_, fun hh => by rw [hfr] at hh; cases hh⟩
  rw [cells1 ht, setC_self]
  have h3 : ovr (stab.getD c []) (putO g (some dd) (g dx)) noFr dd = g dx := by
    rw [ovr_in (by simpa using hs)]; exact upd_same _ _ _
  rw [h3]
  exact hw
end
section
variable {P : Program} {ρ : Fr} {w : World} {d : Option Tmp} {T U ty : TypeId} {pos : String} {es : Array Edge} {x y : Operand} {g : Option (Nat × Bool)}
theorem y_neqlb (hT : P.underlying T = some .bool) {a b : Bool} (hx : ev ρ x = .bool a) (hy : ev ρ y = .bool b) : Yields P ⟨d, .binOp .neq T x y U, ty, pos, es, g⟩ ρ w (.bool (!(a == b))) := by
  unfold Yields; simp [execOp, go_sem, hx, hy, hT]
end
end Mk
end
/- The reference's reached, NodeOf and Valid, walked. -/
section
open Go Mk
namespace Go.Proofs.YteiijmclobggjaaGreat
set_option maxHeartbeats 16000000
attribute [local irreducible] Calls
/-- The place of the first edge that reaches a core, or -1. -/
def reachN (es : List Pl) (c : Int) : Int := match es.findIdx? (fun e => decide (e.2 = c)) with | some k => k | none => -1
theorem reachN_some {es : List Pl} {c : Int} {k : Nat} {x : Pl} (hx : es[k]? = some x) (he : x.2 = c) (hl : ∀ (j : Nat) (y : Pl), j < k → es[j]? = some y → y.2 ≠ c) : reachN es c = k := by
  unfold reachN
  have hk := (List.getElem?_eq_some_iff.1 hx).1
  have h : es.findIdx? (fun e => decide (e.2 = c)) = some k := by
    rw [List.findIdx?_eq_some_iff_getElem]
    refine ⟨hk, ?_, fun j hj => ?_⟩
    · rw [(List.getElem?_eq_some_iff.1 hx).2]; simpa using he
    · have := hl j _ hj (List.getElem?_eq_getElem (by omega))
      simpa using this
  rw [h]
theorem reachN_none {es : List Pl} {c : Int} (hl : ∀ y ∈ es, y.2 ≠ c) : reachN es c = -1 := by
  unfold reachN
  have h : es.findIdx? (fun e => decide (e.2 = c)) = none := List.findIdx?_eq_none_iff.2 fun y hy => by simpa using hl y hy
  rw [h]
theorem reachN_cases (es : List Pl) (c : Int) : (reachN es c = -1 ∧ ∀ y ∈ es, y.2 ≠ c) ∨ ∃ (k : Nat) (x : Pl), reachN es c = k ∧ es[k]? = some x ∧ x.2 = c ∧ ∀ (j : Nat) (y : Pl), j < k → es[j]? = some y → y.2 ≠ c := by
  cases h : es.findIdx? (fun e => decide (e.2 = c)) with
  | none =>
    rw [List.findIdx?_eq_none_iff] at h
    left
    exact ⟨reachN_none fun y hy => by simpa using h y hy, fun y hy => by simpa using h y hy⟩
  | some k =>
    right
    obtain ⟨hk, hg, hj⟩ := List.findIdx?_eq_some_iff_getElem.1 h
    refine ⟨k, es[k], by unfold reachN; rw [h], List.getElem?_eq_getElem hk, by simpa using hg, fun j y hjk hy => ?_⟩
    obtain ⟨h1, h2⟩ := List.getElem?_eq_some_iff.1 hy
    have := hj j hjk
    rw [h2] at this
    simpa using this
instance pg_reached {Γ : Gho} {v : Value} {es : List Pl} [hr : SlC Γ v 2 (es.map plV)] (r c : Int) : PG Tryz.prog Γ 41 [.agg #[.int .i64 r, v], .int .i64 c] (.int .i64 (reachN es c)) := ⟨fun S w hw => by
  have hrs := hr.h
  obtain ⟨am, nm, cm, rfl, hnm, hnmc, hcm⟩ := hr.h.shape
  simp only [List.length_map] at hnm
  refine calls_of_W Tryz.func41 rfl rfl ?_
  repeat (first | refine byW ?_ | (refine byV ?_; intro w hw))
  refine lBox ?_
  intro b2 w hw
  have hw : Wd Γ (.blk b2 (.cells #[.int .i64 r, .slice am nm cm] 32) :: S) w := hw
  repeat (first | refine byW ?_ | (refine byV ?_; intro w hw))
  refine W_loop (fun μ ρ w => ∃ (k : Nat), μ + k = nm ∧ Has ρ [(1, .int .i64 c), (2, .pointer (some ⟨b2, 0, none⟩)), (5, .int .i64 k)] ∧ (∀ (j : Nat) (y : Pl), j < k → es[j]? = some y → y.2 ≠ c) ∧ Wd Γ (.blk b2 (.cells #[.int .i64 r, .slice am nm cm] 32) :: S) w) nm ⟨0, by omega, ⟨rfl, rfl, rfl, trivial⟩, fun j y h => by omega, hw⟩ ?_
  clear hw
  rintro μ ρ w ⟨k, hk, hρ, hall, hw⟩
  rw [hρ.eq]
  clear hρ
  repeat (first | refine byW ?_ | (refine byV ?_; intro w hw))
  refine W_cond rfl (fun h => ?_) (fun h => ?_)
  · have hkn : k < nm := by have := of_decide_eq_true h; omega
    clear h
    obtain ⟨x, hx⟩ := get_lt (l := es) (k := k) (by omega)
    repeat (first | refine byW ?_ | (refine byV ?_; intro w hw))
    refine W_cond rfl (fun h => ?_) (fun h => ?_)
    · rw [reachN_some hx (of_decide_eq_true h) hall]
      repeat (first | refine byW ?_ | (refine byV ?_; intro w hw))
      exact ⟨_, rfl, rfl, hw.drop⟩
    · have h : ¬ x.2 = c := of_decide_eq_false h
      repeat (first | refine byW ?_ | (refine byV ?_; intro w hw))
      refine ⟨μ - 1, by omega, k + 1, by omega, ⟨rfl, rfl, rfl, trivial⟩, fun j y hj hy => ?_, hw⟩
      by_cases e : j = k
      · subst e; rw [hx] at hy; cases hy; exact h
      · exact hall j y (by omega) hy
  · have hkn : ¬ k < nm := by have := of_decide_eq_false h; omega
    rw [reachN_none fun y hy => by
      obtain ⟨j, hj⟩ := List.getElem?_of_mem hy
      exact hall j y (by have := (List.getElem?_eq_some_iff.1 hj).1; omega) hj]
    repeat (first | refine byW ?_ | (refine byV ?_; intro w hw))
    exact ⟨_, rfl, rfl, hw.drop⟩⟩
theorem find_any (l : List CoreT) (id : Int) : (findC l id).2 = l.any fun x => decide (x.ID = id) := by
  rcases coreIx_cases l id with ⟨-, h2, h3⟩ | ⟨k, x, -, h2, h3, h4⟩
  · rw [h2]
    symm
    rw [List.any_eq_false]
    intro x hx; simpa using h3 x hx
  · rw [h4]
    symm
    exact List.any_eq_true.2 ⟨x, List.mem_of_getElem? h2, by simpa using h3⟩
theorem coreAt_lt {l : List CoreT} {id : Int} : decide (coreAt l id < 0) = !(findC l id).2 := by rw [coreAt_neg, find_any]
/-- NodeOf, for a core that is there. -/
theorem pg_NodeOf {Γ : Gho} {u : Value} {H : HwT} [hh : HwR Γ u H] {x : Int} (hx : (findC H.Cores x).2 = true) : PG Tryz.prog Γ 26 [u, .int .i64 x] (.int .i64 (coreN H x)) := ⟨fun S w hw => by
  have hh' := hh
  obtain ⟨a1, n1, c1, a2, n2, c2, a3, n3, c3, a4, n4, c4, a5, n5, c5, cs, rfl, hcs, hok, hsz, r1, r2, r3, r4, r5⟩ := hh.h
  obtain ⟨hn1, hm1, hx1⟩ := rep_facts r1
  simp only [List.length_map] at hn1
  obtain ⟨k, y, hk, hy, hyid, hf⟩ : ∃ (k : Nat) (y : CoreT), coreAt H.Cores x = k ∧ H.Cores[k]? = some y ∧ y.ID = x ∧ findC H.Cores x = (y, true) := by
    rcases coreIx_cases H.Cores x with ⟨-, h2, -⟩ | h
    · rw [h2] at hx; cases hx
    · exact h
  have hkl := (List.getElem?_eq_some_iff.1 hy).1
  have hcn : coreN H x = y.Node := by unfold coreN; rw [hf]
  rw [hcn]
  haveI pc : PG Tryz.prog Γ 36 [.agg #[.string H.Name, .slice a1 n1 c1, .slice a2 n2 c2, .slice a3 n3 c3, .slice a4 n4 c4, .slice a5 n5 c5], .int .i64 x] (.int .i64 (k : Nat)) := by
    have := pg_CoreAt (hh := hh') (id := x)
    rwa [hk] at this
  refine calls_of_W Tryz.func26 rfl rfl ?_
  repeat (first | refine byW ?_ | (refine byV ?_; intro w hw))
  refine lBox ?_
  intro b2 w hw
  have hw : Wd Γ (.blk b2 (hwC H a1 n1 c1 a2 n2 c2 a3 n3 c3 a4 n4 c4 a5 n5 c5) :: S) w := hw
  repeat (first | refine byW ?_ | (refine byV ?_; intro w hw))
  refine W_quiet (by kernel_rfl) (by kernel_rfl) hw ?_
  repeat (first | refine Q_nil ?_ | (apply Q_plain; first | (apply Q_go; first | refine qP ?_ | refine qPg ?_) | refine qY ?_) | (apply Q_guarded; first | (apply Q_go; first | refine qPG ?_ | refine qPgG ?_) | refine qG ?_))
  intro w hw
  repeat (first | refine byW ?_ | (refine byV ?_; intro w hw))
  exact ⟨_, rfl, rfl, hw.drop⟩⟩

/-! ### protocol -/
theorem change_point {f : Nat → Int} {x : Int} : ∀ (d a : Nat), f a = x → f (a + d) ≠ x → ∃ j, a ≤ j ∧ j + 1 ≤ a + d ∧ f j = x ∧ f (j + 1) ≠ x
  | 0, a, h, k => absurd h k
  | d + 1, a, h, k => by
    by_cases e : f (a + d) = x
    · exact ⟨a + d, by omega, by omega, e, k⟩
    · obtain ⟨j, h1, h2, h3, h4⟩ := change_point d a h e
      exact ⟨j, h1, by omega, h3, h4⟩
def fromAt (es : List Pl) (i : Nat) : Int := match es[i]? with | some e => e.1 | none => 0
theorem fromAt_get {es : List Pl} {i : Nat} {e : Pl} (h : es[i]? = some e) : fromAt es i = e.1 := by unfold fromAt; rw [h]
/-- An edge of this sender came, and behind it one of another. -/
theorem done_of {es : List Pl} {k i : Nat} {x : Int} (hi : i ≤ es.length) (hk : k < i) (h1 : fromAt es k = x) (h2 : fromAt es (i - 1) ≠ x) : DoneAt es i x := by
  obtain ⟨j, hj1, hj2, hj3, hj4⟩ := change_point (f := fromAt es) (i - 1 - k) k h1 (by rw [show k + (i - 1 - k) = i - 1 by omega]; exact h2)
  obtain ⟨a, ha⟩ := get_lt (l := es) (k := j) (by omega)
  obtain ⟨b, hb⟩ := get_lt (l := es) (k := j + 1) (by omega)
  rw [fromAt_get ha] at hj3
  rw [fromAt_get hb] at hj4
  exact ⟨j, a, b, by omega, ha, hb, fun e => hj4 (by rw [← e]; exact hj3), hj3⟩
theorem of_done {es : List Pl} {i : Nat} {e : Pl} (he : es[i]? = some e) (hp : ∀ (i' : Nat) (e' : Pl), i' < i → es[i']? = some e' → ¬ DoneAt es i' e'.1) (h : DoneAt es i e.1) : ∃ k, k < i ∧ fromAt es k = e.1 ∧ fromAt es (i - 1) ≠ e.1 := by
  obtain ⟨j, a, b, hj, ha, hb, hab, hae⟩ := h
  refine ⟨j, by omega, by rw [fromAt_get ha, hae], fun h2 => ?_⟩
  have hil := (List.getElem?_eq_some_iff.1 he).1
  have hji : j + 1 ≠ i := fun e2 => by
    rw [e2, he] at hb; cases hb
    exact hab hae
  obtain ⟨z, hz⟩ := get_lt (l := es) (k := i - 1) (by omega)
  rw [fromAt_get hz] at h2
  exact hp (i - 1) z (by omega) hz ⟨j, a, b, by omega, ha, hb, hab, by rw [hae, h2]⟩
theorem reach_take {es : List Pl} {c : Int} {i : Nat} : c ∈ (es.take i).map (·.2) ↔ 0 ≤ reachN es c ∧ reachN es c < (i : Int) := by
  constructor
  · intro h
    obtain ⟨e, he, hec⟩ := List.mem_map.1 h
    obtain ⟨j, hj⟩ := List.getElem?_of_mem he
    rw [List.getElem?_take] at hj
    split at hj
    · rename_i hji
      rcases reachN_cases es c with ⟨-, h3⟩ | ⟨k, x, h1, h2, h3, h4⟩
      · exact absurd hec (h3 e (List.mem_of_getElem? hj))
      · rw [h1]
        refine ⟨by omega, ?_⟩
        have : ¬ j < k := fun hlt => h4 j e hlt hj hec
        omega
    · cases hj
  · rintro ⟨h0, h1⟩
    rcases reachN_cases es c with ⟨h2, -⟩ | ⟨k, x, h2, h3, h4, -⟩
    · omega
    · refine List.mem_map.2 ⟨x, List.mem_of_getElem? (i := k) ?_, h4⟩
      rw [List.getElem?_take, if_pos (by omega)]; exact h3
theorem nodup_take1 {α : Type} {l : List α} {i : Nat} {x : α} (h : (l.take i).Nodup) (hx : l[i]? = some x) (hn : x ∉ l.take i) : (l.take (i + 1)).Nodup := by
  rw [take_succ_of hx, List.nodup_append]
  exact ⟨h, by simp, fun a ha b hb e => hn (by simp at hb; rw [← hb, ← e]; exact ha)⟩
set_option maxRecDepth 4000 in
instance pg_RValid {Γ : Gho} {u v : Value} {H : HwT} [hh : HwR Γ u H] [hwd : WideH H] {es : List Pl} [hr : SlC Γ v 2 (es.map plV)] [hsh : ShortL es] (r : Int) : PG Tryz.prog Γ 20 [u, .agg #[.int .i64 r, v]] (.int .i64 (treeErr H r es)) := ⟨fun S w hw => by
  have hh' := hh
  obtain ⟨a1, n1, c1, a2, n2, c2, a3, n3, c3, a4, n4, c4, a5, n5, c5, cs, rfl, -⟩ := hh.h
  have hrs := hr.h
  obtain ⟨am, nm, cm, rfl, hnm, hnmc, hcm⟩ := hr.h.shape
  simp only [List.length_map] at hnm
  have hms := hsh.h
  refine calls_of_W Tryz.func20 rfl rfl ?_
  repeat (first | refine byW ?_ | (refine byV ?_; intro w hw))
  refine lBox ?_
  intro b2 w hw
  refine lBox ?_
  intro b3 w hw
  have hw : Wd Γ (.blk b3 (.cells #[.int .i64 r, .slice am nm cm] 32) :: .blk b2 (hwC H a1 n1 c1 a2 n2 c2 a3 n3 c3 a4 n4 c4 a5 n5 c5) :: S) w := hw
  unfold treeErr
  repeat (first | refine byW ?_ | (refine byV ?_; intro w hw))
  refine W_cond rfl (fun h => ?_) (fun h => ?_)
  · have h : ¬ validS H = 0 := by simpa using h
    rw [if_neg h]
    repeat (first | refine byW ?_ | (refine byV ?_; intro w hw))
    exact ⟨_, rfl, rfl, hw.ds [0, 0]⟩
  have h : validS H = 0 := by simpa using h
  rw [if_pos h]
  clear h
  repeat (first | refine byW ?_ | (refine byV ?_; intro w hw))
  refine W_cond rfl (fun h => ?_) (fun h => ?_)
  · have h : decide (coreAt H.Cores r < 0) = true := h
    rw [coreAt_lt, Bool.not_eq_true'] at h
    rw [if_neg (by rw [h]; simp)]
    repeat (first | refine byW ?_ | (refine byV ?_; intro w hw))
    exact ⟨_, rfl, rfl, hw.ds [0, 0]⟩
  have hkr : (findC H.Cores r).2 = true := by
    have h : decide (coreAt H.Cores r < 0) = false := h
    rw [coreAt_lt, Bool.not_eq_false'] at h; exact h
  clear h
  repeat (first | refine byW ?_ | (refine byV ?_; intro w hw))
  refine W_loop (fun μ ρ w => ∃ (k : Nat), μ + k = nm ∧ Has ρ [(2, .pointer (some ⟨b2, 0, none⟩)), (3, .pointer (some ⟨b3, 0, none⟩)), (6, .int .i64 k)] ∧ (∀ (j : Nat) (e : Pl), j < k → es[j]? = some e → knownT H e = true) ∧ Wd Γ (.blk b3 (.cells #[.int .i64 r, .slice am nm cm] 32) :: .blk b2 (hwC H a1 n1 c1 a2 n2 c2 a3 n3 c3 a4 n4 c4 a5 n5 c5) :: S) w) nm ⟨0, by omega, ⟨rfl, rfl, rfl, trivial⟩, fun j e h => by omega, hw⟩ ?_
  clear hw
  rintro μ ρ w ⟨k, hk, hρ, hall, hw⟩
  rw [hρ.eq]
  clear hρ
  repeat (first | refine byW ?_ | (refine byV ?_; intro w hw))
  refine W_cond rfl (fun h => ?_) (fun h => ?_)
  · have hkn : k < nm := by have := of_decide_eq_true h; omega
    clear h
    obtain ⟨x, hx⟩ := get_lt (l := es) (k := k) (by omega)
    repeat (first | refine byW ?_ | (refine byV ?_; intro w hw))
    refine W_quiet (by kernel_rfl) (by kernel_rfl) hw ?_
    repeat (first | refine Q_nil ?_ | (apply Q_plain; first | (apply Q_go; first | refine qP ?_ | refine qPg ?_) | refine qY ?_) | (apply Q_guarded; first | (apply Q_go; first | refine qPG ?_ | refine qPgG ?_) | refine qG ?_))
    intro w hw
    refine W_cond rfl (fun h => ?_) (fun h => ?_)
    · have h : (decide (coreAt H.Cores x.1 < 0) || decide (coreAt H.Cores x.2 < 0)) = true := h
      rw [coreAt_lt, coreAt_lt] at h
      have hkf : knownT H x = false := by unfold knownT; revert h; cases (findC H.Cores x.1).2 <;> cases (findC H.Cores x.2).2 <;> simp
      have hf : ¬ (((findC H.Cores r).2 && es.all (knownT H)) = true) := fun hh => by
        rw [Bool.and_eq_true] at hh
        rw [List.all_eq_true.1 hh.2 x (List.mem_of_getElem? hx)] at hkf; cases hkf
      rw [if_neg hf]
      repeat (first | refine byW ?_ | (refine byV ?_; intro w hw))
      exact ⟨_, rfl, rfl, hw.ds [0, 0]⟩
    · have h : (decide (coreAt H.Cores x.1 < 0) || decide (coreAt H.Cores x.2 < 0)) = false := h
      rw [coreAt_lt, coreAt_lt] at h
      have hkt : knownT H x = true := by unfold knownT; revert h; cases (findC H.Cores x.1).2 <;> cases (findC H.Cores x.2).2 <;> simp
      repeat (first | refine byW ?_ | (refine byV ?_; intro w hw))
      refine ⟨μ - 1, by omega, k + 1, by omega, ⟨rfl, rfl, rfl, trivial⟩, fun j e hj he => ?_, hw⟩
      by_cases e1 : j = k
      · subst e1; rw [hx] at he; cases he; exact hkt
      · exact hall j e (by omega) he
  have hkn : ¬ k < nm := by have := of_decide_eq_false h; omega
  have hkall : ((findC H.Cores r).2 && es.all (knownT H)) = true := by
    rw [hkr, Bool.true_and, List.all_eq_true]
    intro e he
    obtain ⟨j, hj⟩ := List.getElem?_of_mem he
    exact hall j e (by have := (List.getElem?_eq_some_iff.1 hj).1; omega) hj
  rw [if_pos hkall]
  clear h hkn hk hall hkall
  repeat (first | refine byW ?_ | (refine byV ?_; intro w hw))
  refine W_loop (fun μ ρ w => ∃ (k : Nat), μ + k = nm ∧ Has ρ [(2, .pointer (some ⟨b2, 0, none⟩)), (3, .pointer (some ⟨b3, 0, none⟩)), (7, .int .i64 k)] ∧ ((es.map (·.2)).take k).Nodup ∧ r ∉ (es.map (·.2)).take k ∧ Wd Γ (.blk b3 (.cells #[.int .i64 r, .slice am nm cm] 32) :: .blk b2 (hwC H a1 n1 c1 a2 n2 c2 a3 n3 c3 a4 n4 c4 a5 n5 c5) :: S) w) nm ⟨0, by omega, ⟨rfl, rfl, rfl, trivial⟩, by simp, by simp, hw⟩ ?_
  clear hw
  rintro μ ρ w ⟨k, hk, hρ, hnd, hrn, hw⟩
  rw [hρ.eq]
  clear hρ
  repeat (first | refine byW ?_ | (refine byV ?_; intro w hw))
  refine W_cond rfl (fun h => ?_) (fun h => ?_)
  · have hkn : k < nm := by have := of_decide_eq_true h; omega
    clear h
    obtain ⟨x, hx⟩ := get_lt (l := es) (k := k) (by omega)
    have hx2 : (es.map (·.2))[k]? = some x.2 := by rw [List.getElem?_map, hx]; rfl
    have hrt : x.2 ∈ (es.map (·.2)).take k ↔ 0 ≤ reachN es x.2 ∧ reachN es x.2 < (k : Int) := by rw [← List.map_take]; exact reach_take
    have hr0 : 0 ≤ reachN es x.2 := by
      rcases reachN_cases es x.2 with ⟨-, h3⟩ | ⟨q, y, h1, -⟩
      · exact absurd rfl (h3 x (List.mem_of_getElem? hx))
      · omega
    repeat (first | refine byW ?_ | (refine byV ?_; intro w hw))
    refine W_quiet (by kernel_rfl) (by kernel_rfl) hw ?_
    repeat (first | refine Q_nil ?_ | (apply Q_plain; first | (apply Q_go; first | refine qP ?_ | refine qPg ?_) | refine qY ?_) | (apply Q_guarded; first | (apply Q_go; first | refine qPG ?_ | refine qPgG ?_) | refine qG ?_))
    intro w hw
    refine W_cond rfl (fun h => ?_) (fun h => ?_)
    · have h : (decide (x.2 = r) || decide (reachN es x.2 < (k : Int))) = true := h
      have hnn : ¬ (r :: es.map (·.2)).Nodup := fun hN => by
        rw [List.nodup_cons] at hN
        simp only [Bool.or_eq_true, decide_eq_true_eq] at h
        rcases h with h | h
        · exact hN.1 (by rw [← h]; exact List.mem_map_of_mem (List.mem_of_getElem? hx))
        · have h5 := hrt.2 ⟨hr0, h⟩
          obtain ⟨j, hj⟩ := List.getElem?_of_mem h5
          rw [List.getElem?_take] at hj
          split at hj
          · have := nodup_get hN.2 hj hx2
            omega
          · cases hj
      rw [if_neg (by rw [decP_f hnn]; simp)]
      repeat (first | refine byW ?_ | (refine byV ?_; intro w hw))
      exact ⟨_, rfl, rfl, hw.ds [0, 0]⟩
    · have h : (decide (x.2 = r) || decide (reachN es x.2 < (k : Int))) = false := h
      simp only [Bool.or_eq_false_iff, decide_eq_false_iff_not] at h
      have hnin : x.2 ∉ (es.map (·.2)).take k := fun hin => h.2 (hrt.1 hin).2
      repeat (first | refine byW ?_ | (refine byV ?_; intro w hw))
      refine ⟨μ - 1, by omega, k + 1, by omega, ⟨rfl, rfl, rfl, trivial⟩, nodup_take1 hnd hx2 hnin, fun hin => ?_, hw⟩
      rw [take_succ_of hx2] at hin
      rcases List.mem_append.1 hin with h5 | h5
      · exact hrn h5
      · exact h.1 (List.mem_singleton.1 h5).symm
  have hkn : ¬ k < nm := by have := of_decide_eq_false h; omega
  rw [List.take_of_length_le (by simp; omega)] at hnd hrn
  rw [if_pos (decP_t (List.nodup_cons.2 ⟨hrn, hnd⟩))]
  clear h hkn hk
  repeat (first | refine byW ?_ | (refine byV ?_; intro w hw))
  refine W_loop (fun μ ρ w => ∃ (i : Nat), μ + i = nm ∧ Has ρ [(2, .pointer (some ⟨b2, 0, none⟩)), (3, .pointer (some ⟨b3, 0, none⟩)), (8, .int .i64 i)] ∧ (∀ (j : Nat) (e : Pl), j < i → es[j]? = some e → e.1 ∈ r :: (es.take j).map (·.2) ∧ ¬ DoneAt es j e.1) ∧ Wd Γ (.blk b3 (.cells #[.int .i64 r, .slice am nm cm] 32) :: .blk b2 (hwC H a1 n1 c1 a2 n2 c2 a3 n3 c3 a4 n4 c4 a5 n5 c5) :: S) w) nm ⟨0, by omega, ⟨rfl, rfl, rfl, trivial⟩, fun j e h => by omega, hw⟩ ?_
  clear hw
  rintro μ ρ w ⟨i, hi, hρ, hall, hw⟩
  rw [hρ.eq]
  clear hρ
  repeat (first | refine byW ?_ | (refine byV ?_; intro w hw))
  refine W_cond rfl (fun h => ?_) (fun h => ?_)
  · have hin : i < nm := by have := of_decide_eq_true h; omega
    clear h
    obtain ⟨x, hx⟩ := get_lt (l := es) (k := i) (by omega)
    repeat (first | refine byW ?_ | (refine byV ?_; intro w hw))
    refine W_cond rfl (fun h => ?_) (fun h => ?_)
    · have h : (decide (x.1 ≠ r) && (decide (reachN es x.1 < 0) || decide (reachN es x.1 ≥ (i : Int)))) = true := h
      simp only [Bool.and_eq_true, Bool.or_eq_true, decide_eq_true_eq] at h
      have hnp : ¬ ProtoP r es := fun hP => by
        rcases List.mem_cons.1 (hP i x hx).1 with h5 | h5
        · exact h.1 h5
        · have := reach_take.1 h5; omega
      rw [if_neg (by rw [decP_f hnp]; simp)]
      repeat (first | refine byW ?_ | (refine byV ?_; intro w hw))
      exact ⟨_, rfl, rfl, hw.ds [0, 0]⟩
    have h : (decide (x.1 ≠ r) && (decide (reachN es x.1 < 0) || decide (reachN es x.1 ≥ (i : Int)))) = false := h
    have hst : x.1 ∈ r :: (es.take i).map (·.2) := by
      by_cases e : x.1 = r
      · rw [e]; simp
      · rw [decide_eq_true (show x.1 ≠ r from e), Bool.true_and] at h
        simp only [Bool.or_eq_false_iff, decide_eq_false_iff_not] at h
        exact List.mem_cons.2 (.inr (reach_take.2 (by omega)))
    clear h
    repeat (first | refine byW ?_ | (refine byV ?_; intro w hw))
    refine W_loop (fun μ2 ρ w => ∃ (k : Nat), μ2 + k = i ∧ Has ρ [(2, .pointer (some ⟨b2, 0, none⟩)), (3, .pointer (some ⟨b3, 0, none⟩)), (8, .int .i64 i), (9, .int .i64 x.1), (11, .int .i64 k)] ∧ (∀ j, j < k → ¬ (fromAt es j = x.1 ∧ fromAt es (i - 1) ≠ x.1)) ∧ Wd Γ (.blk b3 (.cells #[.int .i64 r, .slice am nm cm] 32) :: .blk b2 (hwC H a1 n1 c1 a2 n2 c2 a3 n3 c3 a4 n4 c4 a5 n5 c5) :: S) w) i ⟨0, by omega, ⟨rfl, rfl, rfl, rfl, rfl, trivial⟩, fun j h => by omega, hw⟩ ?_
    clear hw
    rintro μ2 ρ w ⟨k, hk, hρ, hall2, hw⟩
    rw [hρ.eq]
    clear hρ
    repeat (first | refine byW ?_ | (refine byV ?_; intro w hw))
    refine W_cond rfl (fun h => ?_) (fun h => ?_)
    · have hki : k < i := by have := of_decide_eq_true h; omega
      clear h
      obtain ⟨y, hy⟩ := get_lt (l := es) (k := k) (by omega)
      obtain ⟨z, hz⟩ := get_lt (l := es) (k := i - 1) (by omega)
      have hz' : es[((i : Int) - 1).toNat]? = some z := by rw [show ((i : Int) - 1).toNat = i - 1 by omega]; exact hz
      have f1 := fromAt_get hy
      have f2 := fromAt_get hz
      repeat (first | refine byW ?_ | (refine byV ?_; intro w hw))
      refine W_cond rfl (fun h => ?_) (fun h => ?_)
      · have h : (decide (y.1 = x.1) && decide (z.1 ≠ x.1)) = true := h
        simp only [Bool.and_eq_true, decide_eq_true_eq] at h
        have hnp : ¬ ProtoP r es := fun hP => (hP i x hx).2 (done_of (by omega) hki (f1.trans h.1) (by rw [f2]; exact h.2))
        rw [if_neg (by rw [decP_f hnp]; simp)]
        repeat (first | refine byW ?_ | (refine byV ?_; intro w hw))
        exact ⟨_, rfl, rfl, hw.ds [0, 0]⟩
      · have h : (decide (y.1 = x.1) && decide (z.1 ≠ x.1)) = false := h
        have h : ¬ (y.1 = x.1 ∧ z.1 ≠ x.1) := fun hh => by rw [decide_eq_true hh.1, decide_eq_true hh.2] at h; cases h
        repeat (first | refine byW ?_ | (refine byV ?_; intro w hw))
        refine ⟨μ2 - 1, by omega, k + 1, by omega, ⟨rfl, rfl, rfl, rfl, rfl, trivial⟩, fun j hj => ?_, hw⟩
        by_cases e : j = k
        · subst e; rw [f1, f2]; exact h
        · exact hall2 j (by omega)
    · have hki : ¬ k < i := by have := of_decide_eq_false h; omega
      repeat (first | refine byW ?_ | (refine byV ?_; intro w hw))
      refine ⟨μ - 1, by omega, i + 1, by omega, ⟨rfl, rfl, rfl, trivial⟩, fun j e hj he => ?_, hw⟩
      by_cases e1 : j = i
      · subst e1; rw [hx] at he; cases he
        refine ⟨hst, fun hD => ?_⟩
        obtain ⟨q, hq, h5, h6⟩ := of_done hx (fun i' e' hi' he' => (hall i' e' hi' he').2) hD
        exact hall2 q (by omega) ⟨h5, h6⟩
      · exact hall j e (by omega) he
  have hin : ¬ i < nm := by have := of_decide_eq_false h; omega
  have hP : ProtoP r es := fun j e he => hall j e (by have := (List.getElem?_eq_some_iff.1 he).1; omega) he
  rw [if_pos (decP_t hP)]
  repeat (first | refine byW ?_ | (refine byV ?_; intro w hw))
  exact ⟨_, rfl, rfl, hw.ds [0, 0]⟩⟩
end Go.Proofs.YteiijmclobggjaaGreat
end
/- Path, walked. -/
section
open Go Mk
namespace Go.Proofs.YteiijmclobggjaaGreat
set_option maxHeartbeats 8000000
attribute [local irreducible] Calls
def PathOut (H : HwT) (a b : Int) (p : List Int) (err : Int) : Prop :=
  (checkS H a b ≠ 0 ∧ p = [] ∧ err = checkS H a b) ∨
  (checkS H a b = 0 ∧ dstI (nbrL H.Links) b a < 0 ∧ p = [] ∧ err = 60) ∨
  (checkS H a b = 0 ∧ 0 ≤ dstI (nbrL H.Links) b a ∧ err = 0 ∧ ∃ l, p = a :: l ∧ PathP (nbrL H.Links) (dstI (nbrL H.Links) b) b a l)

theorem path_core {Γ : Gho} {u : Value} {H : HwT} [hh : HwR Γ u H] (a b : Int) {w : World} (hw : Wd Γ [] w) :
    Calls Tryz.prog 27 #[u, .int .i64 a, .int .i64 b] w fun e w' => ∃ Γ' v p err, Γ.le Γ' ∧ e = .returned (.tuple #[v, .int .i64 err]) ∧ PathOut H a b p err ∧ Wd Γ' [.own v 3 1 (intRows p)] w' := by
  have hh' := hh
  obtain ⟨a1, n1, c1, a2, n2, c2, a3, n3, c3, a4, n4, c4, a5, n5, c5, cs, rfl, -⟩ := hh.h
  refine calls_of_W Tryz.func27 rfl rfl ?_
  repeat (first | refine byW ?_ | (refine byV ?_; intro w hw))
  refine lBox ?_
  intro b1 w hw
  have hw : Wd Γ [.blk b1 (.cells #[.string H.Name, .slice a1 n1 c1, .slice a2 n2 c2, .slice a3 n3 c3, .slice a4 n4 c4, .slice a5 n5 c5] 28)] w := hw
  repeat (first | refine byW ?_ | (refine byV ?_; intro w hw))
  refine W_cond rfl (fun h => ?_) (fun h => ?_)
  · have h : ¬ checkS H a b = 0 := by simpa using h
    repeat (first | refine byW ?_ | (refine byV ?_; intro w hw))
    exact ⟨_, rfl, Γ, _, [], _, .refl _, rfl, .inl ⟨h, rfl, rfl⟩, Wd.addNil hw.drop⟩
  have h : checkS H a b = 0 := by simpa using h
  obtain ⟨hv, ha0, ha1, hb0, hb1⟩ := check_ok h
  have hL := valid_links hv
  have hn := nbr_ok hL ⟨hb0, hb1⟩
  repeat (first | refine byW ?_ | (refine byV ?_; intro w hw))
  refine lCall ((distances_any (H := H) hL ⟨hb0, hb1⟩ hw).mono fun e w hq => ?_)
  obtain ⟨v, O, rfl, hO, hd, hw⟩ := hq
  obtain ⟨ao, no, co, rfl, hno, hnc, -⟩ := hw.own_shape (i := 0) rfl
  simp only [intRows, List.length_map] at hno
  obtain ⟨y, hy⟩ := get_lt (l := O) (k := a.toNat) (by omega)
  have hget : ∀ {x y : Int}, 0 ≤ x → x < 64 → O[x.toNat]? = some y → dstI (nbrL H.Links) b x = y ∧ y ≤ 128001000000 := fun {x y} h0 h1 hy => by
    have e : oat O x = y := by unfold oat; rw [List.getD_eq_getElem?_getD, hy]; rfl
    have := hd x h0 h1
    rw [e] at this
    exact ⟨this.1.eq, this.2⟩
  have hdst : ∀ x, 0 ≤ x → x < 64 → Dst (nbrL H.Links) b x (dstI (nbrL H.Links) b x) := fun x h0 h1 => by
    have := (hd x h0 h1).1
    rw [this.eq]; exact this
  have hya := (hget ha0 ha1 hy).1
  refine ⟨_, rfl, ?_⟩
  repeat (first | refine byW ?_ | (refine byV ?_; intro w hw))
  refine W_cond rfl (fun h2 => ?_) (fun h2 => ?_)
  · have h2 : y < 0 := of_decide_eq_true h2
    repeat (first | refine byW ?_ | (refine byV ?_; intro w hw))
    exact ⟨_, rfl, Γ, _, [], _, .refl _, rfl, .inr (.inl ⟨h, by rw [hya]; exact h2, rfl, rfl⟩), Wd.addNil (hw.ds [0, 0])⟩
  have h2 : ¬ y < 0 := of_decide_eq_false h2
  repeat (first | refine byW ?_ | (refine byV ?_; intro w hw))
  refine lCall ((neighbours_any (H := H) hL.1 hw).mono fun e w hq => ?_)
  obtain ⟨bm, rfl, hA⟩ := hq
  clear hw
  obtain ⟨Γ1, l, hle, hrep, hw⟩ := adj_freeze hA
  refine ⟨_, rfl, ?_⟩
  repeat (first | refine byW ?_ | (refine byV ?_; intro w hw))
  refine lBuildSlice [[.int .i64 a]] ?_
  intro ap w hw
  have hw : Wd Γ1 [.own (.slice (some ap) 1 1) 3 1 (intRows [a]), adjM bm l, .own (.slice ao no co) 3 1 (intRows O), .blk b1 (.cells #[.string H.Name, .slice a1 n1 c1, .slice a2 n2 c2, .slice a3 n3 c3, .slice a4 n4 c4, .slice a5 n5 c5] 28)] w := hw
  repeat (first | refine byW ?_ | (refine byV ?_; intro w hw))
  refine W_loop (fun μ ρ w => ∃ (c : Int) (vp : Option Addr) (np cp : Nat) (P : List Int), μ = (dstI (nbrL H.Links) b c).toNat ∧ 0 ≤ c ∧ c < 64 ∧ 0 ≤ dstI (nbrL H.Links) b c ∧ P.length + μ ≤ y.toNat ∧ (∀ t, PathP (nbrL H.Links) (dstI (nbrL H.Links) b) b c t → PathP (nbrL H.Links) (dstI (nbrL H.Links) b) b a (P ++ t)) ∧ Has ρ [(2, .int .i64 b), (9, .slice ao no co), (10, .map (some bm)), (11, .slice vp np cp), (12, .int .i64 c)] ∧ Wd Γ1 [.own (.slice vp np cp) 3 1 (intRows (a :: P)), adjM bm l, .own (.slice ao no co) 3 1 (intRows O), .blk b1 (.cells #[.string H.Name, .slice a1 n1 c1, .slice a2 n2 c2, .slice a3 n3 c3, .slice a4 n4 c4, .slice a5 n5 c5] 28)] w) y.toNat ⟨a, some ap, 1, 1, [], by rw [hya], ha0, ha1, by rw [hya]; omega, by simp, fun t ht => ht, ⟨rfl, rfl, rfl, rfl, rfl, trivial⟩, hw⟩ ?_
  clear hw
  rintro μ ρ w ⟨c, vp, np, cp, P, hμ, hc0, hc1, hcl, hPl, hP, hρ, hw⟩
  have hyb := (hget ha0 ha1 hy).2
  have hpn := own_len (i := 0) hw rfl
  simp only [intRows, List.length_map, List.length_cons] at hpn
  rw [hρ.eq]
  clear hρ
  repeat (first | refine byW ?_ | (refine byV ?_; intro w hw))
  refine W_cond rfl (fun h3 => ?_) (fun h3 => ?_)
  · have h3 : c ≠ b := by simpa using h3
    obtain ⟨q, hq, hq1, hq2, hq3, hq4, hq5, hq6, hq7⟩ := next_ok hL ⟨hb0, hb1⟩ hdst ⟨hc0, hc1⟩ hcl h3
    obtain ⟨yc, hyc⟩ := get_lt (l := O) (k := c.toNat) (by omega)
    have hcc := (hget hc0 hc1 hyc).1
    obtain ⟨va, hva⟩ := zeroOr_some l c
    have hra := hrep c va hva
    obtain ⟨aa, na, ca, rfl, hna, hnca, hca⟩ := hra.shape
    simp only [List.length_map] at hna
    repeat (first | refine byW ?_ | (refine byV ?_; intro w hw))
    refine lY (v := .slice aa na ca) ?_ (hy := y_lookupZ hw hva (i := 1) rfl rfl rfl)
    repeat (first | refine byW ?_ | (refine byV ?_; intro w hw))
    refine W_loop (fun μ2 ρ w => ∃ (k : Nat), μ2 + k = na ∧ Has ρ [(2, .int .i64 b), (9, .slice ao no co), (10, .map (some bm)), (11, .slice vp np cp), (12, .int .i64 c), (13, .int .i64 (((nbrL H.Links c).take k).foldl (stepF (dstI (nbrL H.Links) b) c) (-1))), (41, .slice aa na ca), (42, .int .i64 na), (43, .int .i64 k)] ∧ Wd Γ1 [.own (.slice vp np cp) 3 1 (intRows (a :: P)), adjM bm l, .own (.slice ao no co) 3 1 (intRows O), .blk b1 (.cells #[.string H.Name, .slice a1 n1 c1, .slice a2 n2 c2, .slice a3 n3 c3, .slice a4 n4 c4, .slice a5 n5 c5] 28)] w) na ⟨0, by omega, ⟨rfl, rfl, rfl, rfl, rfl, rfl, rfl, rfl, rfl, trivial⟩, hw⟩ ?_
    clear hw
    rintro μ2 ρ w ⟨k, hk, hρ, hw⟩
    rw [hρ.eq]
    clear hρ
    repeat (first | refine byW ?_ | (refine byV ?_; intro w hw))
    refine W_cond rfl (fun h4 => ?_) (fun h4 => ?_)
    · have hkn : k < na := by have := of_decide_eq_true h4; omega
      clear h4
      obtain ⟨r, hr⟩ := get_lt (l := nbrL H.Links c) (k := k) (by omega)
      obtain ⟨r0, r1, r2, r3⟩ := hn.rng c r (List.mem_of_getElem? hr)
      obtain ⟨yr, hyr⟩ := get_lt (l := O) (k := r.1.toNat) (by omega)
      obtain ⟨hrr, hrb⟩ := hget r0 r1 hyr
      have hrn : -1 ≤ yr := by rw [← hrr]; rcases hdst r.1 r0 r1 with ⟨k0, -⟩ | ⟨k0, -⟩ <;> omega
      generalize hacc : ((nbrL H.Links c).take k).foldl (stepF (dstI (nbrL H.Links) b) c) (-1) = acc
      have hst : ((nbrL H.Links c).take (k + 1)).foldl (stepF (dstI (nbrL H.Links) b) c) (-1) = if r.2 + yr = yc ∧ (acc < 0 ∨ r.1 < acc) then r.1 else acc := by
        rw [take_succ_of hr, List.foldl_append, hacc, ← hrr, ← hcc]; rfl
      repeat (first | refine byW ?_ | (refine byV ?_; intro w hw))
      refine lAlloc ?_
      intro b15 w hw
      refine lStore ?_
      intro w hw
      have hw : Wd Γ1 [.blk b15 (.cells (plV r).toArray 109), .own (.slice vp np cp) 3 1 (intRows (a :: P)), adjM bm l, .own (.slice ao no co) 3 1 (intRows O), .blk b1 (.cells #[.string H.Name, .slice a1 n1 c1, .slice a2 n2 c2, .slice a3 n3 c3, .slice a4 n4 c4, .slice a5 n5 c5] 28)] w := hw
      repeat (first | refine byW ?_ | (refine byV ?_; intro w hw))
      refine W_quiet (by kernel_rfl) (by kernel_rfl) hw ?_
      repeat (first | refine Q_nil ?_ | (apply Q_plain; first | (apply Q_go; first | refine qP ?_ | refine qPg ?_) | refine qY ?_) | (apply Q_guarded; first | (apply Q_go; first | refine qPG ?_ | refine qPgG ?_) | refine qG ?_))
      intro w hw
      refine W_cond rfl (fun h5 => ?_) (fun h5 => ?_)
      · have h5 : (decide (r.2 + yr = yc) && (decide (acc < 0) || decide (r.1 < acc))) = true := h5
        rw [if_pos (by simpa using h5)] at hst
        repeat (first | refine byW ?_ | (refine byV ?_; intro w hw))
        exact ⟨μ2 - 1, by omega, k + 1, by omega, ⟨rfl, rfl, rfl, rfl, rfl, by rw [hst]; rfl, rfl, rfl, rfl, trivial⟩, hw.drop⟩
      · have h5 : (decide (r.2 + yr = yc) && (decide (acc < 0) || decide (r.1 < acc))) = false := h5
        rw [if_neg (fun hh => by have : (decide (r.2 + yr = yc) && (decide (acc < 0) || decide (r.1 < acc))) = true := by simpa using hh
                                 rw [h5] at this; cases this)] at hst
        repeat (first | refine byW ?_ | (refine byV ?_; intro w hw))
        exact ⟨μ2 - 1, by omega, k + 1, by omega, ⟨rfl, rfl, rfl, rfl, rfl, by rw [hst]; rfl, rfl, rfl, rfl, trivial⟩, hw.drop⟩
    · have hkn : ¬ k < na := by have := of_decide_eq_false h4; omega
      rw [List.take_of_length_le (by omega)]
      rw [show (nbrL H.Links c).foldl (stepF (dstI (nbrL H.Links) b) c) (-1) = q.1 from hq2]
      repeat (first | refine byW ?_ | (refine byV ?_; intro w hw))
      refine lBuildSlice [[.int .i64 q.1]] ?_
      intro ab w hw
      refine lApp (i := 1) (rows2 := [[.int .i64 q.1]]) ?_ (Wd.own_rd (i := 0) hw rfl)
      intro v' w hw
      obtain ⟨q', m', d', rfl, -, -, -⟩ := hw.own_shape (i := 1) rfl
      have hw : Wd Γ1 [.own (.slice q' m' d') 3 1 (intRows (a :: (P ++ [q.1]))), adjM bm l, .own (.slice ao no co) 3 1 (intRows O), .blk b1 (.cells #[.string H.Name, .slice a1 n1 c1, .slice a2 n2 c2, .slice a3 n3 c3, .slice a4 n4 c4, .slice a5 n5 c5] 28)] w := by
        have e : intRows (a :: (P ++ [q.1])) = intRows (a :: P) ++ [[.int .i64 q.1]] := by simp [intRows]
        rw [e]; exact hw.drop
      repeat (first | refine byW ?_ | (refine byV ?_; intro w hw))
      refine ⟨(dstI (nbrL H.Links) b q.1).toNat, by omega, q.1, q', m', d', P ++ [q.1], rfl, hq6, hq7, hq4, by simp; omega, fun t ht => ?_, ⟨rfl, rfl, rfl, rfl, rfl, trivial⟩, hw⟩
      rw [List.append_assoc]
      refine hP _ ?_
      rw [← hq2] at ht ⊢
      exact .cons h3 ht
  · have h3 : c = b := by simpa using h3
    subst h3
    repeat (first | refine byW ?_ | (refine byV ?_; intro w hw))
    refine ⟨_, rfl, Γ1, _, a :: P, 0, hle, rfl, .inr (.inr ⟨h, by rw [hya]; omega, rfl, P, rfl, ?_⟩), hw.ds [1, 1, 1]⟩
    have := hP [] .nil
    rwa [List.append_nil] at this

theorem Path_any {Γ : Gho} {u : Value} {H : HwT} [hh : HwR Γ u H] (a b : Int) {S : List Res} {w : World} (hw : Wd Γ S w) :
    Calls Tryz.prog 27 #[u, .int .i64 a, .int .i64 b] w fun e w' => ∃ v p err, e = .returned (.tuple #[v, .int .i64 err]) ∧ PathOut H a b p err ∧ Wd Γ (.own v 3 1 (intRows p) :: S) w' := by
  haveI : HwR (hpG Γ w) u H := hh.mono (hpG_le hw)
  refine (path_core (Γ := hpG Γ w) a b (hpG_wd hw)).mono fun e w' hq => ?_
  obtain ⟨Γ', v, p, err, hle, rfl, hp, hw'⟩ := hq
  exact ⟨v, p, err, rfl, hp, wd_keptG (R := [_]) hw hle own_noimm hw'⟩
end Go.Proofs.YteiijmclobggjaaGreat
end
/- The chapter's example: its distances, path, tree and completion. -/
section
open Go Mk
namespace Go.Proofs.YteiijmclobggjaaGreat

def awH : HwT := ⟨⟨#[109]⟩, [⟨0, 32, 0, 1⟩, ⟨1, 39, 2, 1⟩], [], [⟨0, 1, 5⟩, ⟨1, 2, 7⟩], [], []⟩
theorem aw_reach : Reach awH.Links 0 2 := .ab (l := ⟨1, 2, 7⟩) (by simp [awH]) (.ab (l := ⟨0, 1, 5⟩) (by simp [awH]) .refl)
theorem aw_valid : validS awH = 0 := by
  have h1 : namesB awH = true := by decide +kernel
  have h2 : countsB awH = true := by decide +kernel
  have h3 : (coresRB awH && regionsRB awH) = true := by decide +kernel
  have h4 : alignRB awH = true := by decide +kernel
  have h5 : uniqueB awH = true := by decide +kernel
  have h6 : knownB awH = true := by decide +kernel
  have h7 : hierB awH = true := decP_t ⟨fun c hc => (by cases hc), fun i k a b ha => (by cases ha)⟩
  have h8 : disjB awH = true := decP_t fun i k a b _ ha => by simp [awH, regs] at ha
  have h9 : connB awH = true := decP_t fun n hn => by
    have : n = 0 ∨ n = 2 := by simpa [awH, usedN] using hn
    rcases this with rfl | rfl
    · exact .refl
    · exact aw_reach
  simp [validS, h1, h2, h3, h4, h5, h6, h7, h8, h9]
theorem aw_sz : HwSz awH := by unfold HwSz maxS; decide
theorem aw_nb {x : Int} {q : Pl} (h : q ∈ nbrL awH.Links x) : (x = 0 ∧ q = (1, 5)) ∨ (x = 1 ∧ (q = (0, 5) ∨ q = (2, 7))) ∨ (x = 2 ∧ q = (1, 7)) := by
  simp only [nbrL, awH, List.flatMap_cons, List.flatMap_nil, List.append_nil, List.mem_append] at h
  rcases h with (h | h) | (h | h) <;> split at h <;> simp at h
  · left; exact ⟨by omega, h⟩
  · right; left; exact ⟨by omega, .inl h⟩
  · right; left; exact ⟨by omega, .inr h⟩
  · right; right; exact ⟨by omega, h⟩
def awPot (x : Int) : Int := if x = 1 then 5 else if x = 2 then 12 else 0
theorem aw_pot {x d : Int} (h : Way (nbrL awH.Links) 0 x d) : awPot x ≤ d := by
  induction h with
  | refl => decide
  | @step x d q _ hq ih =>
    rcases aw_nb hq with ⟨rfl, rfl⟩ | ⟨rfl, rfl | rfl⟩ | ⟨rfl, rfl⟩ <;> simp [awPot] at ih ⊢ <;> omega
theorem aw_pot2 {x d : Int} (h : Way (nbrL awH.Links) 2 x d) : 12 - awPot x ≤ d := by
  induction h with
  | refl => decide
  | @step x d q _ hq ih =>
    rcases aw_nb hq with ⟨rfl, rfl⟩ | ⟨rfl, rfl | rfl⟩ | ⟨rfl, rfl⟩ <;> simp [awPot] at ih ⊢ <;> omega
theorem aw_m01 : ((1, 5) : Pl) ∈ nbrL awH.Links 0 := by decide
theorem aw_m12 : ((2, 7) : Pl) ∈ nbrL awH.Links 1 := by decide
theorem aw_m21 : ((1, 7) : Pl) ∈ nbrL awH.Links 2 := by decide
theorem aw_m10 : ((0, 5) : Pl) ∈ nbrL awH.Links 1 := by decide
theorem aw_02 : dstI (nbrL awH.Links) 0 2 = 12 := Dst.eq (.inl ⟨by decide, (Way.step (q := (2, 7)) (Way.step (q := (1, 5)) .refl aw_m01) aw_m12 : Way _ 0 2 (0 + 5 + 7)), fun d' h => aw_pot h⟩)
theorem aw_20 : dstI (nbrL awH.Links) 2 0 = 12 := Dst.eq (.inl ⟨by decide, (Way.step (q := (0, 5)) (Way.step (q := (1, 7)) .refl aw_m21) aw_m10 : Way _ 2 0 (0 + 7 + 5)), fun d' h => aw_pot2 h⟩)
theorem aw_21 : dstI (nbrL awH.Links) 2 1 = 7 := Dst.eq (.inl ⟨by decide, (Way.step (q := (1, 7)) .refl aw_m21 : Way _ 2 1 (0 + 7)), fun d' h => aw_pot2 h⟩)
theorem aw_22 : dstI (nbrL awH.Links) 2 2 = 0 := Dst.eq (.inl ⟨by decide, .refl, fun d' h => aw_pot2 h⟩)
theorem aw_check {a b : Int} (ha : 0 ≤ a ∧ a < 64) (hb : 0 ≤ b ∧ b < 64) : checkS awH a b = 0 := by
  unfold checkS
  rw [if_pos aw_valid, if_neg (by omega)]
theorem aw_dist : distS awH 0 2 = (12, 0) := by
  unfold distS
  rw [if_pos (aw_check (by omega) (by omega)), aw_02, if_neg (by omega)]
theorem aw_next0 : nextF (nbrL awH.Links) (dstI (nbrL awH.Links) 2) 0 = 1 := by
  have : nbrL awH.Links 0 = [(1, 5)] := by decide
  unfold nextF
  rw [this]
  simp [stepF, aw_20, aw_21]
theorem aw_next1 : nextF (nbrL awH.Links) (dstI (nbrL awH.Links) 2) 1 = 2 := by
  have : nbrL awH.Links 1 = [(0, 5), (2, 7)] := by decide
  unfold nextF
  rw [this]
  simp [stepF, aw_20, aw_21, aw_22]
theorem aw_path {p : List Int} {err : Int} (h : PathOut awH 0 2 p err) : p = [0, 1, 2] ∧ err = 0 := by
  rcases h with ⟨h, -⟩ | ⟨-, h, -⟩ | ⟨-, -, he, l, rfl, hp⟩
  · exact absurd (aw_check (by omega) (by omega)) h
  · rw [aw_20] at h; omega
  · cases hp with
    | cons hne hp =>
      rw [aw_next0] at hp ⊢
      cases hp with
      | cons hne hp =>
        rw [aw_next1] at hp ⊢
        cases hp with
        | nil => exact ⟨rfl, he⟩
        | cons hne hp => exact absurd rfl hne
theorem aw_plan : PlanOk awH 0 [1] := ⟨aw_valid, by decide, by decide, by decide, by decide⟩
theorem aw_tree : planE awH 0 [1] 3 = [(0, 1)] := by
  have hl := planE_len (cost := 3) aw_plan
  have ht := planE_tos (cost := 3) aw_plan
  have hp := planE_proto (cost := 3) aw_plan
  match he : planE awH 0 [1] 3, hl with
  | [e], _ =>
    rw [he] at ht hp
    have h2 : e.2 = 1 := by simpa using ht.mem_iff (a := e.2)
    have h1 : e.1 = 0 := by simpa using (hp 0 e rfl).1
    rw [show e = (e.1, e.2) from rfl, h1, h2]
theorem aw_planS : planErr awH 0 [1] 3 = 0 ∧ planS awH 0 [1] 3 = (0, [(0, 1)]) := by
  have h := aw_plan.err (cost := 3) (by omega)
  refine ⟨h, ?_⟩
  unfold planS
  rw [if_pos h, aw_tree]
theorem aw_comp : compS awH 0 [(0, 1)] 3 = 15 ∧ (arrS awH 0 [(0, 1)] 3).2 = 0 := by
  have ht : treeErr awH 0 [(0, 1)] = 0 := by rw [← aw_tree]; exact planE_tree aw_plan
  have hf : farI awH 0 1 = 12 := aw_02
  have ha : arrS awH 0 [(0, 1)] 3 = ([15], 0) := by
    unfold arrS
    rw [if_pos ht, if_neg (by omega)]
    unfold arrF
    rw [hf]
    rfl
  unfold compS
  rw [ha]
  exact ⟨rfl, rfl⟩
end Go.Proofs.YteiijmclobggjaaGreat
end
/- height, walked. -/
section
open Go Mk
namespace Go.Proofs.YteiijmclobggjaaGreat
set_option maxHeartbeats 16000000
attribute [local irreducible] Calls
/-- The children, as slices that a map holds. -/
def chO (N : Int → List Int) (e : Int × Value) : Res := .own e.2 3 1 (intRows (N e.1))
abbrev plB (pb bb : Nat) (cost : Int) (bc : Nat) : Res := .blk pb (.cells #[.pointer (some ⟨bb, 0, none⟩), .int .i64 cost, .map (some bc)] 80)
theorem zeroOr_eq {l : List (Int × Value)} {a : Int} {v v' : Value} (h : zeroOr l a v) (h' : zeroOr l a v') : v = v' := by
  rcases h with h | ⟨h, rfl⟩ <;> rcases h' with h' | ⟨h', rfl⟩
  · rw [h] at h'; cases h'; rfl
  · rw [h] at h'; cases h'
  · rw [h] at h'; cases h'
  · rfl
theorem ch_open {Γ : Gho} {A S : List Res} {N : Int → List Int} {w : World} {l : List (Int × Value)} (a : Int) (hn : (l.map (·.1)).Nodup) (h0 : aGet l a = none → N a = []) (hw : Wd Γ (A ++ (l.map (chO N) ++ S)) w) :
    ∃ v, zeroOr l a v ∧ Wd Γ (.own v 3 1 (intRows (N a)) :: (A ++ ((restL l a).map (chO N) ++ S))) w := by
  cases hg : aGet l a with
  | some v =>
    exact ⟨v, .inl hg, hw.perm ((List.Perm.append_left A (((aGet_perm hn hg).map (chO N)).append_right S)).trans List.perm_middle)⟩
  | none =>
    refine ⟨.slice none 0 0, .inr ⟨hg, rfl⟩, ?_⟩
    have h1 := Wd.addNil (a := none) (E := 3) (sz := 1) hw
    rw [h0 hg, show restL l a = l from aGet_none_filter hg]
    exact h1
theorem ch_close {Γ : Gho} {A S : List Res} {N N' : Int → List Int} {w : World} {l : List (Int × Value)} {a : Int} {v : Value} (hn : (l.map (·.1)).Nodup) (hv : zeroOr l a v) (hN : ∀ x, x ≠ a → N' x = N x) (hw : Wd Γ (.own v 3 1 (intRows (N' a)) :: (A ++ ((restL l a).map (chO N) ++ S))) w) :
    Wd Γ (A ++ (l.map (chO N') ++ S)) w := by
  have hr : (restL l a).map (chO N) = (restL l a).map (chO N') := List.map_congr_left fun e he => by
    have := (List.mem_filter.1 he).2
    unfold chO
    rw [hN e.1 (by intro h; simp [h] at this)]
  rw [hr] at hw
  rcases hv with hg | ⟨hg, rfl⟩
  · exact hw.perm ((List.Perm.append_left A (((aGet_perm hn hg).map (chO N')).append_right S)).trans List.perm_middle).symm
  · rw [show restL l a = l from aGet_none_filter hg] at hw
    exact hw.drop
theorem ints_len {v : Value} {Γ : Gho} {S : List Res} {w : World} {E i : Nat} {xs : List Int} (hw : Wd Γ S w) (hi : S[i]? = some (.own v E 1 (intRows xs))) : ∃ a c, v = .slice a xs.length c ∧ xs.length ≤ c ∧ c ≤ 9223372036854775807 := by
  obtain ⟨a, n, c, rfl, hn, hnc, hc⟩ := hw.own_shape hi
  simp only [intRows, List.length_map] at hn
  subst hn
  exact ⟨a, c, rfl, hnc, hc⟩

theorem height_any {Γ : Gho} {H : HwT} {a1 : Option Addr} {n1 c1 : Nat} {a2 : Option Addr} {n2 c2 : Nat} {a3 : Option Addr} {n3 c3 : Nat} {a4 : Option Addr} {n4 c4 : Nat} {a5 : Option Addr} {n5 c5 : Nat} [hhw : HwR Γ (.agg #[.string H.Name, .slice a1 n1 c1, .slice a2 n2 c2, .slice a3 n3 c3, .slice a4 n4 c4, .slice a5 n5 c5]) H] (hv : validS H = 0) {cost : Int} (hc : 0 ≤ cost ∧ cost ≤ 1000000) {ch : Int → List Int} {pb bb bc : Nat} {l : List (Int × Value)} (hl : (l.map (·.1)).Nodup) (h0 : ∀ x, aGet l x = none → ch x = []) (hlen : ∀ x, (ch x).length ≤ 1000) :
    ∀ {k : Nat} {core : Int}, Dep ch k core → k ≤ 4 → (∀ a, Rch ch core a → (findC H.Cores a).2 = true) → ∀ {cur : Int → List Int} {S : List Res} {w : World}, (∀ x, Rch ch core x → (cur x).Perm (ch x)) →
    Wd Γ (plB pb bb cost bc :: btwP bb H a1 n1 c1 a2 n2 c2 a3 n3 c3 a4 n4 c4 a5 n5 c5 :: adjM bc l :: (l.map (chO cur) ++ S)) w →
    Calls Tryz.prog 35 #[.pointer (some ⟨pb, 0, none⟩), .int .i64 core] w fun e w' => e = .returned (.int .i64 (hh (farI H) cost ch core)) ∧ Wd Γ (plB pb bb cost bc :: btwP bb H a1 n1 c1 a2 n2 c2 a3 n3 c3 a4 n4 c4 a5 n5 c5 :: adjM bc l :: (l.map (chO (upS (farI H) cost ch (Rch ch core) cur)) ++ S)) w'
  | 0, _, hd, _, _ => hd.elim
  | k + 1, core, hd, hk, hkn => by
    intro hp hw
    rename_i cur S w
    have hd' : ∀ d ∈ ch core, Dep ch k d := hd
    have hpc := hp core (.refl core)
    have hLlen : (cur core).length ≤ 1000 := by rw [hpc.length_eq]; exact hlen core
    have hfar : ∀ a b, Rch ch core a → b ∈ ch a → 0 ≤ farI H a b ∧ farI H a b ≤ 63000000 := fun a b hr hb => far_le hv (hkn a hr) (hkn b (hr.trans (.step hb (.refl b))))
    have htlb : ∀ d ∈ ch core, 0 ≤ farI H core d ∧ farI H core d ≤ 63000000 ∧ 0 ≤ hh (farI H) cost ch d ∧ hh (farI H) cost ch d ≤ 4252000000 := fun d hdm => by
      have h1 := hfar core d (.refl core) hdm
      have h2 := hh_bound (far := farI H) hc (hd' d hdm) (by omega) (fun a b hr hb => hfar a b (.step hdm hr) hb) (fun a _ => hlen a)
      omega
    refine calls_of_W Tryz.func35 rfl rfl ?_
    repeat (first | refine byW ?_ | (refine byV ?_; intro w hw))
    refine L_step rfl rfl (s_makeMap (K := 3) (α := Int) (f := fun n : Int => Value.int .i64 n) hw fun bt w hw => ?_)
    repeat (first | refine byW ?_ | (refine byV ?_; intro w hw))
    refine lAlloc ?_
    intro b5 w hw
    refine lStore ?_
    intro w hw
    have hw : Wd Γ ([.blk b5 (.cells #[.map (some bt)] 92), Res.mpT Tryz.prog 3 (fun n : Int => Value.int .i64 n) bt ([] : List (Int × Int)), plB pb bb cost bc, btwP bb H a1 n1 c1 a2 n2 c2 a3 n3 c3 a4 n4 c4 a5 n5 c5, adjM bc l] ++ (l.map (chO cur) ++ S)) w := hw
    have hnone : aGet l core = none → cur core = [] := fun hg => by
      have := hpc; rw [h0 core hg] at this; exact this.eq_nil
    obtain ⟨vv, hz, hwo⟩ := ch_open core hl hnone hw
    obtain ⟨a, c, rfl, hnc, hcc⟩ := ints_len hwo (i := 0) rfl
    clear hwo
    generalize hn : (cur core).length = n at *
    repeat (first | refine byW ?_ | (refine byV ?_; intro w hw))
    refine lY (v := .slice a n c) ?_ (hy := y_lookupZ hw hz (i := 4) rfl rfl rfl)
    repeat (first | refine byW ?_ | (refine byV ?_; intro w hw))
    have hstart : upS (farI H) cost ch (fun x => ∃ d ∈ (cur core).take 0, Rch ch d x) cur = cur := by
      funext x; exact upS_out (fun ⟨d, hd, _⟩ => by simp at hd)
    refine W_loop (fun μ ρ w => ∃ (i : Nat) (lt : List (Int × Int)) (tf : Int → Int), μ + i = n ∧ MapF lt tf ∧ (∀ d ∈ (cur core).take i, tf d = tl (farI H) cost ch core d) ∧ Has ρ [(0, .pointer (some ⟨pb, 0, none⟩)), (1, .int .i64 core), (5, .pointer (some ⟨b5, 0, none⟩)), (17, .slice a n c), (18, .int .i64 n), (19, .int .i64 i)] ∧ Wd Γ ([.blk b5 (.cells #[.map (some bt)] 92), Res.mpT Tryz.prog 3 (fun n : Int => Value.int .i64 n) bt lt, plB pb bb cost bc, btwP bb H a1 n1 c1 a2 n2 c2 a3 n3 c3 a4 n4 c4 a5 n5 c5, adjM bc l] ++ (l.map (chO (upS (farI H) cost ch (fun x => ∃ d ∈ (cur core).take i, Rch ch d x) cur)) ++ S)) w) n ⟨0, [], fun _ => 0, by omega, fun _ => rfl, fun d hd => by simp at hd, ⟨rfl, rfl, rfl, rfl, rfl, rfl, trivial⟩, by rw [hstart]; exact hw⟩ ?_
    clear hw
    rintro μ ρ w ⟨i, lt, tf, hi, hmf, htf, hρ, hw⟩
    rw [hρ.eq]
    clear hρ
    have hDcore : ∀ j, ¬ ∃ d ∈ (cur core).take j, Rch ch d core := fun j ⟨d, hdm, hr⟩ => no_cycle (hpc.mem_iff.1 (List.mem_of_mem_take hdm)) hr hd
    repeat (first | refine byW ?_ | (refine byV ?_; intro w hw))
    refine W_cond rfl (fun h => ?_) (fun h => ?_)
    · have hin : i < n := by have := of_decide_eq_true h; omega
      obtain ⟨x, hx⟩ := get_lt (l := cur core) (k := i) (by omega)
      have hxm : x ∈ ch core := hpc.mem_iff.1 (List.mem_of_getElem? hx)
      obtain ⟨v2, hz2, hw⟩ := ch_open core hl (fun hg => by rw [upS_out (hDcore i)]; exact hnone hg) hw
      have := zeroOr_eq hz hz2
      subst this
      rw [upS_out (hDcore i)] at hw
      have hw : Wd Γ (.own (.slice a n c) 3 1 (intRows (cur core)) :: .blk b5 (.cells #[.map (some bt)] 92) :: Res.mpT Tryz.prog 3 (fun n : Int => Value.int .i64 n) bt lt :: plB pb bb cost bc :: btwP bb H a1 n1 c1 a2 n2 c2 a3 n3 c3 a4 n4 c4 a5 n5 c5 :: adjM bc l :: ((restL l core).map (chO (upS (farI H) cost ch (fun x => ∃ d ∈ (cur core).take i, Rch ch d x) cur)) ++ S)) w := hw
      repeat (first | refine byW ?_ | (refine byV ?_; intro w hw))
      have hw := ch_close (A := [.blk b5 (.cells #[.map (some bt)] 92), Res.mpT Tryz.prog 3 (fun n : Int => Value.int .i64 n) bt lt, plB pb bb cost bc, btwP bb H a1 n1 c1 a2 n2 c2 a3 n3 c3 a4 n4 c4 a5 n5 c5, adjM bc l]) (N' := upS (farI H) cost ch (fun x => ∃ d ∈ (cur core).take i, Rch ch d x) cur) hl hz (fun _ _ => rfl) (by rw [upS_out (hDcore i)]; exact hw)
      generalize hcur : upS (farI H) cost ch (fun x => ∃ d ∈ (cur core).take i, Rch ch d x) cur = cur2 at hw
      have hw : Wd Γ ([.blk b5 (.cells #[.map (some bt)] 92), plB pb bb cost bc] ++ ((btwP bb H a1 n1 c1 a2 n2 c2 a3 n3 c3 a4 n4 c4 a5 n5 c5 :: adjM bc l :: l.map (chO cur2)) ++ ([Res.mpT Tryz.prog 3 (fun n : Int => Value.int .i64 n) bt lt] ++ (S ++ [])))) w := hw.perm byPM
      have hb := htlb x hxm
      have hdx := hd' x hxm
      have hcx1 := coreN_rng hv (hkn core (.refl core))
      have hcx2 := coreN_rng hv (hkn x (.step hxm (.refl x)))
      refine W_mixed [.blk b5 (.cells #[.map (some bt)] 92), plB pb bb cost bc] [fun _ => btwP bb H a1 n1 c1 a2 n2 c2 a3 n3 c3 a4 n4 c4 a5 n5 c5 :: adjM bc l :: l.map (chO cur2), fun _ => [Res.mpT Tryz.prog 3 (fun n : Int => Value.int .i64 n) bt lt], fun _ => S] [[],[],[],[],[],[],[],[],[0],[],[],[0],[],[1]] [[],[],[],[],[],[],[],[],[0],[],[],[0],[],[1]] [[], [], []] (by exact hw) ?_
      repeat (first | refine mY ?_ | refine mP ?_ | refine mPg ?_)
      refine mCallSK (c := 0) (X := btwP bb H a1 n1 c1 a2 n2 c2 a3 n3 c3 a4 n4 c4 a5 n5 c5 :: adjM bc l :: l.map (chO cur2)) (btwP bb H a1 n1 c1 a2 n2 c2 a3 n3 c3 a4 n4 c4 a5 n5 c5 :: adjM bc l :: l.map (chO cur2)) (vs := [.pointer (some ⟨bb, 0, none⟩), .int .i64 core, .int .i64 x]) (v := .int .i64 (farI H core x)) (fun R w hw => coresP_any (valid_links hv) hcx1 hcx2 hw) ?_
      repeat (first | refine mY ?_ | refine mP ?_ | refine mPg ?_)
      refine mCallSK (c := 0) (X := btwP bb H a1 n1 c1 a2 n2 c2 a3 n3 c3 a4 n4 c4 a5 n5 c5 :: adjM bc l :: l.map (chO cur2)) (btwP bb H a1 n1 c1 a2 n2 c2 a3 n3 c3 a4 n4 c4 a5 n5 c5 :: adjM bc l :: l.map (chO (upS (farI H) cost ch (Rch ch x) cur2))) (vs := [.pointer (some ⟨pb, 0, none⟩), .int .i64 x]) (v := .int .i64 (hh (farI H) cost ch x)) (fun R w hw => ?_) ?_
      · refine (height_any (core := x) hv hc hl h0 hlen hdx (by omega) (fun a hr => hkn a (.step hxm hr)) (cur := cur2) (S := .blk b5 (.cells #[.map (some bt)] 92) :: R) (fun y hr => by rw [← hcur]; exact upS_perm (hp y (.step hxm hr))) (hw.perm byPM)).mono ?_
        rintro e w' ⟨h1, h2⟩
        exact ⟨h1, h2.perm byPM⟩
      repeat (first | refine mY ?_ | refine mP ?_ | refine mPg ?_)
      refine mM (v := undef) (fun _ => [Res.mpT Tryz.prog 3 (fun n : Int => Value.int .i64 n) bt (aSet lt x (farI H core x + hh (farI H) cost ch x))]) (fun Y w g hw => by
        rw [cells1 (c := 1) rfl] at hw
        refine s_mapUpdate (P := Tryz.prog) (K := 3) (α := Int) (f := fun n : Int => Value.int .i64 n) (i := 2) (v := farI H core x + hh (farI H) cost ch x) (a := x) hw rfl rfl rfl rfl fun w hw => ⟨?_, fun _ => rfl⟩
        rw [cells1 (c := 1) rfl, setC_self]
        exact hw) ?_ rfl rfl
      refine mEnd fun w g hw => ?_
      have hmf' := mapF_set hmf x (farI H core x + hh (farI H) cost ch x)
      have hw : Wd Γ ([.blk b5 (.cells #[.map (some bt)] 92), plB pb bb cost bc] ++ ((btwP bb H a1 n1 c1 a2 n2 c2 a3 n3 c3 a4 n4 c4 a5 n5 c5 :: adjM bc l :: l.map (chO (upS (farI H) cost ch (Rch ch x) cur2))) ++ ([Res.mpT Tryz.prog 3 (fun n : Int => Value.int .i64 n) bt (aSet lt x (farI H core x + hh (farI H) cost ch x))] ++ (S ++ [])))) w := hw
      have hcur3 : upS (farI H) cost ch (Rch ch x) cur2 = upS (farI H) cost ch (fun y => ∃ d ∈ (cur core).take (i + 1), Rch ch d y) cur := by
        rw [← hcur, upS_upS]
        refine upS_congr fun y => ?_
        rw [take_succ_of hx]
        simp only [List.mem_append, List.mem_singleton]
        constructor
        · rintro (⟨d, h1, h2⟩ | h1)
          · exact ⟨d, .inl h1, h2⟩
          · exact ⟨x, .inr rfl, h1⟩
        · rintro ⟨d, h1 | rfl, h2⟩
          · exact .inl ⟨d, h1, h2⟩
          · exact .inr h2
      rw [hcur3] at hw
      have hw : Wd Γ ([.blk b5 (.cells #[.map (some bt)] 92), Res.mpT Tryz.prog 3 (fun n : Int => Value.int .i64 n) bt (aSet lt x (farI H core x + hh (farI H) cost ch x)), plB pb bb cost bc, btwP bb H a1 n1 c1 a2 n2 c2 a3 n3 c3 a4 n4 c4 a5 n5 c5, adjM bc l] ++ (l.map (chO (upS (farI H) cost ch (fun y => ∃ d ∈ (cur core).take (i + 1), Rch ch d y) cur)) ++ S)) w := hw.perm byPM
      repeat (first | refine byW ?_ | (refine byV ?_; intro w hw))
      refine ⟨μ - 1, by omega, i + 1, _, _, by omega, hmf', fun d hdm => ?_, ⟨rfl, rfl, rfl, rfl, rfl, rfl, trivial⟩, hw⟩
      unfold updI
      by_cases e : x = d
      · rw [if_pos e, ← e]; rfl
      · rw [if_neg e]
        rw [take_succ_of hx] at hdm
        rcases List.mem_append.1 hdm with h1 | h1
        · exact htf d h1
        · exact absurd (List.mem_singleton.1 h1).symm e
    · have hin : ¬ i < n := by have := of_decide_eq_false h; omega
      rw [List.take_of_length_le (by omega)] at htf hw
      have hDc : ¬ ∃ d ∈ cur core, Rch ch d core := by have := hDcore n; rwa [List.take_of_length_le (by omega)] at this
      generalize hcur : upS (farI H) cost ch (fun x => ∃ d ∈ cur core, Rch ch d x) cur = cur2 at hw
      have hc2 : cur2 core = cur core := by rw [← hcur]; exact upS_out hDc
      obtain ⟨v2, hz2, hw⟩ := ch_open core hl (fun hg => by rw [hc2]; exact hnone hg) hw
      have := zeroOr_eq hz hz2
      subst this
      rw [hc2] at hw
      have hw : Wd Γ (.own (.slice a n c) 3 1 (intRows (cur core)) :: .blk b5 (.cells #[.map (some bt)] 92) :: Res.mpT Tryz.prog 3 (fun n : Int => Value.int .i64 n) bt lt :: plB pb bb cost bc :: btwP bb H a1 n1 c1 a2 n2 c2 a3 n3 c3 a4 n4 c4 a5 n5 c5 :: adjM bc l :: ((restL l core).map (chO cur2) ++ S)) w := hw
      have hsrt : tsort tf (cur core) = srt (farI H) cost ch core := (tsort_congr htf).trans (tsort_of_perm hpc)
      have hslen : (srt (farI H) cost ch core).length = n := by rw [(srt_perm core).length_eq, ← hpc.length_eq, hn]
      repeat (first | refine byW ?_ | (refine byV ?_; intro w hw))
      refine lY (v := .slice a n c) ?_ (hy := y_lookupZ hw hz (i := 5) rfl rfl rfl)
      repeat (first | refine byW ?_ | (refine byV ?_; intro w hw))
      refine lCall ((sortH_any (j := 0) (i := 1) hw rfl rfl hmf (by omega)).mono fun e w hq => ?_)
      obtain ⟨rfl, hw⟩ := hq
      rw [hsrt] at hw
      refine ⟨_, rfl, ?_⟩
      repeat (first | refine byW ?_ | (refine byV ?_; intro w hw))
      refine lY (v := .slice a n c) ?_ (hy := y_lookupZ hw hz (i := 5) rfl rfl rfl)
      repeat (first | refine byW ?_ | (refine byV ?_; intro w hw))
      rw [hh_eq hd hk]
      refine W_loop (fun μ ρ w => ∃ (i : Nat) (m : Int), μ + i = n ∧ hmostF cost (tl (farI H) cost ch core) i m ((srt (farI H) cost ch core).drop i) = hmostF cost (tl (farI H) cost ch core) 0 0 (srt (farI H) cost ch core) ∧ Has ρ [(0, .pointer (some ⟨pb, 0, none⟩)), (1, .int .i64 core), (5, .pointer (some ⟨b5, 0, none⟩)), (8, .int .i64 m), (50, .slice a n c), (51, .int .i64 n), (52, .int .i64 i)] ∧ Wd Γ (.own (.slice a n c) 3 1 (intRows (srt (farI H) cost ch core)) :: .blk b5 (.cells #[.map (some bt)] 92) :: Res.mpT Tryz.prog 3 (fun n : Int => Value.int .i64 n) bt lt :: plB pb bb cost bc :: btwP bb H a1 n1 c1 a2 n2 c2 a3 n3 c3 a4 n4 c4 a5 n5 c5 :: adjM bc l :: ((restL l core).map (chO cur2) ++ S)) w) n ⟨0, 0, by omega, rfl, ⟨rfl, rfl, rfl, rfl, rfl, rfl, rfl, trivial⟩, hw⟩ ?_
      clear hw
      rintro μ ρ w ⟨i, m, hi, hF, hρ, hw⟩
      rw [hρ.eq]
      clear hρ
      repeat (first | refine byW ?_ | (refine byV ?_; intro w hw))
      refine W_cond rfl (fun h => ?_) (fun h => ?_)
      · have hin : i < n := by have := of_decide_eq_true h; omega
        obtain ⟨x, hx⟩ := get_lt (l := srt (farI H) cost ch core) (k := i) (by omega)
        have hxm : x ∈ ch core := (srt_perm core).mem_iff.1 (List.mem_of_getElem? hx)
        have htx : tf x = tl (farI H) cost ch core x := htf x (hpc.mem_iff.2 hxm)
        have hb := htlb x hxm
        have htb : 0 ≤ tf x ∧ tf x ≤ 4315000000 := by rw [htx]; unfold tl; omega
        have hmul : 0 ≤ ((i : Int) + 1) * cost ∧ ((i : Int) + 1) * cost ≤ 1000000000 := ⟨Int.mul_nonneg (by omega) hc.1, Int.le_trans (Int.mul_le_mul (b := cost) (d := 1000000) (show (i : Int) + 1 ≤ 1000 by omega) hc.2 hc.1 (by omega)) (by omega)⟩
        have hdr : (srt (farI H) cost ch core).drop i = x :: (srt (farI H) cost ch core).drop (i + 1) := by
          obtain ⟨q1, q2⟩ := List.getElem?_eq_some_iff.1 hx
          rw [List.drop_eq_getElem_cons q1, q2]
        rw [hdr] at hF
        have hF : hmostF cost (tl (farI H) cost ch core) (i + 1) (max m (((i : Int) + 1) * cost + tf x)) ((srt (farI H) cost ch core).drop (i + 1)) = hmostF cost (tl (farI H) cost ch core) 0 0 (srt (farI H) cost ch core) := by rw [htx]; exact hF
        rw [max_if] at hF
        repeat (first | refine byW ?_ | (refine byV ?_; intro w hw))
        refine W_quiet (by kernel_rfl) (by kernel_rfl) hw ?_
        repeat (first | refine Q_nil ?_ | (apply Q_plain; first | (apply Q_go; first | refine qP ?_ | refine qPg ?_) | refine qY ?_) | (apply Q_guarded; first | (apply Q_go; first | refine qPG ?_ | refine qPgG ?_) | refine qG ?_))
        refine qY (v := .int .i64 (tf x)) ?_ (hy := fun w hw => y_lookupF hw hmf (i := 2) rfl rfl rfl)
        repeat (first | refine Q_nil ?_ | (apply Q_plain; first | (apply Q_go; first | refine qP ?_ | refine qPg ?_) | refine qY ?_) | (apply Q_guarded; first | (apply Q_go; first | refine qPG ?_ | refine qPgG ?_) | refine qG ?_))
        intro w hw
        repeat (first | refine byW ?_ | (refine byV ?_; intro w hw))
        exact ⟨μ - 1, by omega, i + 1, _, by omega, hF, ⟨rfl, rfl, rfl, rfl, rfl, rfl, rfl, trivial⟩, hw⟩
      · have hin : ¬ i < n := by have := of_decide_eq_false h; omega
        rw [List.drop_eq_nil_of_le (by omega)] at hF
        have hF : m = hmostF cost (tl (farI H) cost ch core) 0 0 (srt (farI H) cost ch core) := hF
        have hN : ∀ x, x ≠ core → upS (farI H) cost ch (Rch ch core) cur x = cur2 x := fun x hx => by
          rw [← hcur]
          by_cases hr : Rch ch core x
          · have : ∃ d ∈ cur core, Rch ch d x := by
              cases hr with
              | refl => exact absurd rfl hx
              | step hdm hr => exact ⟨_, hpc.mem_iff.2 hdm, hr⟩
            rw [upS_in hr, upS_in this]
          · rw [upS_out hr, upS_out]
            rintro ⟨d, h1, h2⟩
            exact hr (.step (hpc.mem_iff.1 h1) h2)
        have hw := ch_close (A := [.blk b5 (.cells #[.map (some bt)] 92), Res.mpT Tryz.prog 3 (fun n : Int => Value.int .i64 n) bt lt, plB pb bb cost bc, btwP bb H a1 n1 c1 a2 n2 c2 a3 n3 c3 a4 n4 c4 a5 n5 c5, adjM bc l]) (N' := upS (farI H) cost ch (Rch ch core) cur) hl hz hN (by rw [upS_in (.refl core)]; exact hw)
        have hw := hw.drop.drop
        repeat (first | refine byW ?_ | (refine byV ?_; intro w hw))
        exact ⟨_, rfl, (by rw [← hF]; rfl), hw⟩
end Go.Proofs.YteiijmclobggjaaGreat
end
/- Plan, walked (printed in part by gen_h25.py). -/
section
open Go Mk
namespace Go.Proofs.YteiijmclobggjaaGreat
set_option maxHeartbeats 16000000
attribute [local irreducible] Calls
theorem intRows_app (a b : List Int) : intRows (a ++ b) = intRows a ++ intRows b := by unfold intRows; rw [List.map_append]
/-- A map of slices of numbers as one resource. -/
def AdjP (bm : Nat) (N : Int → List Int) : Res := Res.pk (fun l : List (Int × Value) => (l.map (·.1)).Nodup ∧ ∀ x, aGet l x = none → N x = []) (fun l => adjM bm l :: l.map (chO N))
theorem adjP_new {Γ : Gho} {S : List Res} {w : World} {bm : Nat} (hw : Wd Γ (adjM bm [] :: S) w) : Wd Γ (AdjP bm (fun _ => []) :: S) w := by
  unfold AdjP
  exact Wd.pack ([] : List (Int × Value)) ⟨by simp, fun _ _ => rfl⟩ hw
theorem adjP_open {Γ : Gho} {S : List Res} {w : World} {bm : Nat} {N : Int → List Int} (a : Int) (hw : Wd Γ (AdjP bm N :: S) w) :
    ∃ (l : List (Int × Value)) (v : Value), (l.map (·.1)).Nodup ∧ (∀ x, aGet l x = none → N x = []) ∧ zeroOr l a v ∧ Wd Γ (adjM bm l :: .own v 3 1 (intRows (N a)) :: ((restL l a).map (chO N) ++ S)) w := by
  unfold AdjP at hw
  obtain ⟨l, ⟨h1, h2⟩, hw⟩ := Wd.unpack hw
  obtain ⟨v, h3, hw⟩ := ch_open (A := [adjM bm l]) a h1 (h2 a) hw
  exact ⟨l, v, h1, h2, h3, hw.perm (.swap _ _ _)⟩
theorem adjP_close {Γ : Gho} {S : List Res} {w : World} {bm : Nat} {N : Int → List Int} {a : Int} {l : List (Int × Value)} {v : Value} (hn : (l.map (·.1)).Nodup) (h0 : ∀ x, aGet l x = none → N x = []) (hz : zeroOr l a v) (hw : Wd Γ (adjM bm l :: .own v 3 1 (intRows (N a)) :: ((restL l a).map (chO N) ++ S)) w) : Wd Γ (AdjP bm N :: S) w := by
  have hw := ch_close (A := [adjM bm l]) (N := N) (N' := N) hn hz (fun _ _ => rfl) (hw.perm (.swap _ _ _))
  unfold AdjP
  exact Wd.pack l ⟨hn, h0⟩ hw
theorem adjP_set {Γ : Gho} {S : List Res} {w : World} {bm : Nat} {N : Int → List Int} {a : Int} {xs : List Int} {l : List (Int × Value)} {v : Value} (hn : (l.map (·.1)).Nodup) (h0 : ∀ x, aGet l x = none → N x = []) (hw : Wd Γ (adjM bm (aSet l a v) :: .own v 3 1 (intRows (N a ++ xs)) :: ((restL l a).map (chO N) ++ S)) w) : Wd Γ (AdjP bm (addI N a xs) :: S) w := by
  have h1 : (restL l a).map (chO N) = (restL l a).map (chO (addI N a xs)) := List.map_congr_left fun e he => by
    have := (List.mem_filter.1 he).2
    unfold chO addI
    rw [if_neg (by intro h; simp [h] at this)]
  have h2 : Res.own v 3 1 (intRows (N a ++ xs)) = chO (addI N a xs) (a, v) := by
    unfold chO addI; simp
  rw [h1, h2] at hw
  unfold AdjP
  refine Wd.pack (aSet l a v) ⟨aSet_keys hn a v, fun x hx => ?_⟩ (hw.perm (List.Perm.cons _ (((aSet_perm hn a v).map (chO (addI N a xs))).append_right S).symm))
  rw [aGet_aSet] at hx
  by_cases e : a = x
  · rw [if_pos e] at hx; cases hx
  · rw [if_neg e] at hx
    unfold addI; rw [if_neg e]; exact h0 x hx

theorem mem_ok {H : HwT} {r : Int} {ms : List Int} (h : memErr H r ms = 0) : (findC H.Cores r).2 = true ∧ (∀ a ∈ ms, (findC H.Cores a).2 = true) ∧ r ∉ ms ∧ ms.Nodup := by
  unfold memErr at h
  by_cases e1 : (r :: ms).all (fun id => (findC H.Cores id).2) = false
  · rw [if_pos e1] at h; cases h
  rw [if_neg e1] at h
  by_cases e2 : decP (r :: ms).Nodup = false
  · rw [if_pos e2] at h; cases h
  have e1 : (r :: ms).all (fun id => (findC H.Cores id).2) = true := by simpa using e1
  have e2 : (r :: ms).Nodup := by
    by_cases hn : (r :: ms).Nodup
    · exact hn
    · exact absurd (decP_f hn) e2
  have h1 := List.all_eq_true.1 e1
  rw [List.nodup_cons] at e2
  exact ⟨h1 r (by simp), fun a ha => h1 a (by simp [ha]), e2.1, e2.2⟩

theorem plan_any {Γ : Gho} {u v : Value} {H : HwT} [hhw : HwR Γ u H] {ms : List Int} [hr : SlC Γ v 1 (intRows ms)] [hsh : ShortL ms] (r cost : Int) {S : List Res} {w : World} (hw : Wd Γ S w) :
    Calls Tryz.prog 11 #[u, .int .i64 r, v, .int .i64 cost] w fun e w' => ∃ vo, e = .returned (.tuple #[.agg #[.int .i64 (planS H r ms cost).1, vo], .int .i64 (planErr H r ms cost)]) ∧ Wd Γ (.own vo 60 2 ((planS H r ms cost).2.map plV) :: S) w' := by
  have hhw' := hhw
  obtain ⟨a1, n1, c1, a2, n2, c2, a3, n3, c3, a4, n4, c4, a5, n5, c5, cs, rfl, -⟩ := hhw.h
  have hrs := hr.h
  obtain ⟨am, nm, cm, rfl, hnm, hnmc, hcm⟩ := hr.h.shape
  simp only [intRows, List.length_map] at hnm
  have hms := hsh.h
  refine calls_of_WC Tryz.func11 rfl rfl ?_
  repeat (first | refine byW ?_ | (refine byV ?_; intro w hw))
  refine lBox ?_
  intro b4 w hw
  refine lAlloc ?_
  intro b8 w hw
  have hw : Wd Γ ([.blk b8 (.cells #[.int .i64 0, .slice none 0 0] 32), .blk b4 (.cells #[.string H.Name, .slice a1 n1 c1, .slice a2 n2 c2, .slice a3 n3 c3, .slice a4 n4 c4, .slice a5 n5 c5] 28)] ++ S) w := hw
  unfold planS
  have hE : ∀ {e : Int} {w : World}, planErr H r ms cost = e → e ≠ 0 → Wd Γ ([.blk b8 (.cells #[.int .i64 0, .slice none 0 0] 32), .blk b4 (.cells #[.string H.Name, .slice a1 n1 c1, .slice a2 n2 c2, .slice a3 n3 c3, .slice a4 n4 c4, .slice a5 n5 c5] 28)] ++ S) w → ∃ vo, Ending.returned (.tuple #[.agg #[.int .i64 0, .slice none 0 0], .int .i64 e]) = .returned (.tuple #[.agg #[.int .i64 (if planErr H r ms cost = 0 then (r, planE H r ms cost) else (0, [])).1, vo], .int .i64 (planErr H r ms cost)]) ∧ Wd Γ (.own vo 60 2 ((if planErr H r ms cost = 0 then (r, planE H r ms cost) else (0, [])).2.map plV) :: S) w := fun {e w} he hne hw => by
    rw [he, if_neg hne]
    exact ⟨_, rfl, Wd.addNil (hw.ds [0, 0])⟩
  repeat (first | refine byW ?_ | (refine byV ?_; intro w hw))
  refine W_cond rfl (fun h => ?_) (fun h => ?_)
  · have h : ¬ validS H = 0 := by simpa using h
    have he : planErr H r ms cost = validS H := by unfold planErr; rw [if_pos h]
    repeat (first | refine byW ?_ | (refine byV ?_; intro w hw))
    refine lStore ?_
    intro w hw
    have hw : Wd Γ ([.blk b8 (.cells #[.int .i64 0, .slice none 0 0] 32), .blk b4 (.cells #[.string H.Name, .slice a1 n1 c1, .slice a2 n2 c2, .slice a3 n3 c3, .slice a4 n4 c4, .slice a5 n5 c5] 28)] ++ S) w := hw
    repeat (first | refine byW ?_ | (refine byV ?_; intro w hw))
    exact ⟨[_, _], ⟨resC (i := 0) hw rfl rfl rfl, rfl, trivial⟩, hE he h hw⟩
  have hv : validS H = 0 := by simpa using h
  clear h
  repeat (first | refine byW ?_ | (refine byV ?_; intro w hw))
  refine W_cond rfl (fun h => ?_) (fun h => ?_)
  · have h : ¬ memErr H r ms = 0 := by simpa using h
    have he : planErr H r ms cost = memErr H r ms := by unfold planErr; rw [if_neg (by omega), if_pos h]
    repeat (first | refine byW ?_ | (refine byV ?_; intro w hw))
    refine lStore ?_
    intro w hw
    have hw : Wd Γ ([.blk b8 (.cells #[.int .i64 0, .slice none 0 0] 32), .blk b4 (.cells #[.string H.Name, .slice a1 n1 c1, .slice a2 n2 c2, .slice a3 n3 c3, .slice a4 n4 c4, .slice a5 n5 c5] 28)] ++ S) w := hw
    repeat (first | refine byW ?_ | (refine byV ?_; intro w hw))
    exact ⟨[_, _], ⟨resC (i := 0) hw rfl rfl rfl, rfl, trivial⟩, hE he h hw⟩
  have hme : memErr H r ms = 0 := by simpa using h
  clear h
  repeat (first | refine byW ?_ | (refine byV ?_; intro w hw))
  refine W_cond rfl (fun h => ?_) (fun h => ?_)
  · have h : (decide (cost < 0) || decide (cost > 1000000)) = true := h
    have he : planErr H r ms cost = 6 := by unfold planErr; rw [if_neg (by omega), if_neg (by omega), if_pos (by simp at h; omega)]
    repeat (first | refine byW ?_ | (refine byV ?_; intro w hw))
    refine lStore ?_
    intro w hw
    have hw : Wd Γ ([.blk b8 (.cells #[.int .i64 0, .slice none 0 0] 32), .blk b4 (.cells #[.string H.Name, .slice a1 n1 c1, .slice a2 n2 c2, .slice a3 n3 c3, .slice a4 n4 c4, .slice a5 n5 c5] 28)] ++ S) w := hw
    repeat (first | refine byW ?_ | (refine byV ?_; intro w hw))
    exact ⟨[_, _], ⟨resC (i := 0) hw rfl rfl rfl, rfl, trivial⟩, hE he (by omega) hw⟩
  have h : (decide (cost < 0) || decide (cost > 1000000)) = false := h
  have hc : 0 ≤ cost ∧ cost ≤ 1000000 := by simp at h; omega
  have he0 : planErr H r ms cost = 0 := by unfold planErr; rw [if_neg (by omega), if_neg (by omega), if_neg (by omega)]
  clear h hE
  rw [he0, if_pos rfl]
  obtain ⟨hknr, hknm, hrm, hmnd⟩ := mem_ok hme
  have hcr := coreN_rng hv hknr
  repeat (first | refine byW ?_ | (refine byV ?_; intro w hw))
  refine L_step rfl rfl (s_makeMap (K := 3) (α := Int) (f := (id : Value → Value)) hw fun bg w hw => ?_)
  have hw := adjP_new hw
  repeat (first | refine byW ?_ | (refine byV ?_; intro w hw))
  have hg0 : (fun _ : Int => ([] : List Int)) = grpL H (ms.take 0) := by funext n; rfl
  refine W_loop (fun μ ρ w => ∃ (k : Nat), μ + k = nm ∧ Has ρ [(1, .int .i64 r), (2, .slice am nm cm), (3, .int .i64 cost), (4, .pointer (some ⟨b4, 0, none⟩)), (8, .pointer (some ⟨b8, 0, none⟩)), (9, .int .i64 0), (12, .map (some bg)), (52, .slice am nm cm), (53, .int .i64 nm), (54, .int .i64 k)] ∧ Wd Γ (AdjP bg (grpL H (ms.take k)) :: ([.blk b8 (.cells #[.int .i64 0, .slice none 0 0] 32), .blk b4 (.cells #[.string H.Name, .slice a1 n1 c1, .slice a2 n2 c2, .slice a3 n3 c3, .slice a4 n4 c4, .slice a5 n5 c5] 28)] ++ S)) w) nm ⟨0, by omega, ⟨rfl, rfl, rfl, rfl, rfl, rfl, rfl, rfl, rfl, rfl, trivial⟩, by rw [← hg0]; exact hw⟩ ?_
  clear hw
  rintro μ ρ w ⟨k, hk, hρ, hw⟩
  rw [hρ.eq]
  clear hρ
  repeat (first | refine byW ?_ | (refine byV ?_; intro w hw))
  refine W_cond rfl (fun h => ?_) (fun h => ?_)
  · have hkn : k < nm := by have := of_decide_eq_true h; omega
    obtain ⟨x, hx⟩ := get_lt (l := ms) (k := k) (by omega)
    have hlen : (grpL H (ms.take k) (coreN H x)).length ≤ 1000 := Nat.le_trans grpL_len (by simp; omega)
    repeat (first | refine byW ?_ | (refine byV ?_; intro w hw))
    refine lAlloc ?_
    intro b15 w hw
    refine lStore ?_
    intro w hw
    have hw : Wd Γ (AdjP bg (grpL H (ms.take k)) :: ([.blk b15 (.cells (enc (findC H.Cores x).1).toArray 53), .blk b8 (.cells #[.int .i64 0, .slice none 0 0] 32), .blk b4 (.cells #[.string H.Name, .slice a1 n1 c1, .slice a2 n2 c2, .slice a3 n3 c3, .slice a4 n4 c4, .slice a5 n5 c5] 28)] ++ S)) w := hw.ps [1]
    obtain ⟨l, vv, hnl, hl0, hz, hw⟩ := adjP_open (coreN H x) hw
    obtain ⟨a0, c0, rfl, hnc0, hcc0⟩ := ints_len hw (i := 1) rfl
    have hw : Wd Γ ([.blk b15 (.cells (enc (findC H.Cores x).1).toArray 53)] ++ (adjM bg l :: .own (.slice a0 (grpL H (ms.take k) (coreN H x)).length c0) 3 1 (intRows (grpL H (ms.take k) (coreN H x))) :: ((restL l (coreN H x)).map (chO (grpL H (ms.take k))) ++ ([.blk b8 (.cells #[.int .i64 0, .slice none 0 0] 32), .blk b4 (.cells #[.string H.Name, .slice a1 n1 c1, .slice a2 n2 c2, .slice a3 n3 c3, .slice a4 n4 c4, .slice a5 n5 c5] 28)] ++ S)))) w := hw.perm byPM
    generalize hm0 : (grpL H (ms.take k) (coreN H x)).length = m0 at hw hnc0 hcc0 hz
    repeat (first | refine byW ?_ | (refine byV ?_; intro w hw))
    refine W_mix2 [.blk b15 (.cells (enc (findC H.Cores x).1).toArray 53)] _ [[],[],[],[],[],[],[],[],[1],[0],[0]] [[],[],[],[],[],[],[0],[],[1],[0,1],[0]] [[73], [72]] hw ?_
    repeat (first | refine mY ?_ | refine mP ?_ | refine mPg ?_)
    refine mY (v := .slice a0 m0 c0) ?_ (hy := fun Y w g hw => y_lookupZ hw hz (i := 1) rfl rfl rfl)
    repeat (first | refine mY ?_ | refine mP ?_ | refine mPg ?_)
    refine mBuild (cells := [.int .i64 x]) [[.int .i64 x]] ?_
    refine mApp (j := 1) ?_
    refine mPutV (j := 0) ?_
    refine mEnd fun w g hw => ?_
    have hw := Wd.dropEnd hw
    have hw : Wd Γ ([.blk b15 (.cells (enc (findC H.Cores x).1).toArray 53)] ++ (adjM bg (aSet l (coreN H x) (g 73)) :: .own (g 73) 3 1 (intRows (grpL H (ms.take k) (coreN H x)) ++ intRows [x]) :: ((restL l (coreN H x)).map (chO (grpL H (ms.take k))) ++ ([.blk b8 (.cells #[.int .i64 0, .slice none 0 0] 32), .blk b4 (.cells #[.string H.Name, .slice a1 n1 c1, .slice a2 n2 c2, .slice a3 n3 c3, .slice a4 n4 c4, .slice a5 n5 c5] 28)] ++ S)))) w := hw
    rw [← intRows_app] at hw
    have hw := adjP_set hnl hl0 (S := ([.blk b8 (.cells #[.int .i64 0, .slice none 0 0] 32), .blk b4 (.cells #[.string H.Name, .slice a1 n1 c1, .slice a2 n2 c2, .slice a3 n3 c3, .slice a4 n4 c4, .slice a5 n5 c5] 28)] ++ S) ++ [.blk b15 (.cells (enc (findC H.Cores x).1).toArray 53)]) (hw.perm byPM)
    generalize g 73 = gg at hw
    clear hz hm0
    rw [grpL_snoc hx] at hw
    have hw : Wd Γ (AdjP bg (grpL H (ms.take (k + 1))) :: ([.blk b8 (.cells #[.int .i64 0, .slice none 0 0] 32), .blk b4 (.cells #[.string H.Name, .slice a1 n1 c1, .slice a2 n2 c2, .slice a3 n3 c3, .slice a4 n4 c4, .slice a5 n5 c5] 28)] ++ S)) w := (Wd.flip (A := [.blk b15 (.cells (enc (findC H.Cores x).1).toArray 53)]) (hw.perm byPM)).left
    repeat (first | refine byW ?_ | (refine byV ?_; intro w hw))
    exact ⟨μ - 1, by omega, k + 1, by omega, ⟨rfl, rfl, rfl, rfl, rfl, rfl, rfl, rfl, rfl, rfl, trivial⟩, hw⟩
  have hkn : ¬ k < nm := by have := of_decide_eq_false h; omega
  rw [List.take_of_length_le (by omega)] at hw
  clear h hkn hk
  repeat (first | refine byW ?_ | (refine byV ?_; intro w hw))
  refine L_step rfl rfl (s_makeMap (K := 3) (α := Int) (f := (id : Value → Value)) hw fun bm w hw => ?_)
  repeat (first | refine byW ?_ | (refine byV ?_; intro w hw))
  refine lBox ?_
  intro bb w hw
  have hw := btwP_new (Γ := Γ) (bb := bb) (H := H) (bm := bm) (a1 := a1) (n1 := n1) (c1 := c1) (a2 := a2) (n2 := n2) (c2 := c2) (a3 := a3) (n3 := n3) (c3 := c3) (a4 := a4) (n4 := n4) (c4 := c4) (a5 := a5) (n5 := n5) (c5 := c5) hw
  repeat (first | refine byW ?_ | (refine byV ?_; intro w hw))
  refine L_step rfl rfl (s_makeMap (K := 3) (α := Int) (f := (id : Value → Value)) hw fun bc w hw => ?_)
  have hw := adjP_new hw
  repeat (first | refine byW ?_ | (refine byV ?_; intro w hw))
  refine lBox ?_
  intro pb w hw
  have hw : Wd Γ (plB pb bb cost bc :: AdjP bc (fun _ => []) :: btwP bb H a1 n1 c1 a2 n2 c2 a3 n3 c3 a4 n4 c4 a5 n5 c5 :: AdjP bg (grpL H ms) :: ([.blk b8 (.cells #[.int .i64 0, .slice none 0 0] 32), .blk b4 (.cells #[.string H.Name, .slice a1 n1 c1, .slice a2 n2 c2, .slice a3 n3 c3, .slice a4 n4 c4, .slice a5 n5 c5] 28)] ++ S)) w := hw
  repeat (first | refine byW ?_ | (refine byV ?_; intro w hw))
  refine lAlloc ?_
  intro b18 w hw
  refine lStore ?_
  intro w hw
  have hw : Wd Γ (.blk b18 (.cells (enc (findC H.Cores r).1).toArray 53) :: plB pb bb cost bc :: AdjP bc (fun _ => []) :: btwP bb H a1 n1 c1 a2 n2 c2 a3 n3 c3 a4 n4 c4 a5 n5 c5 :: AdjP bg (grpL H ms) :: ([.blk b8 (.cells #[.int .i64 0, .slice none 0 0] 32), .blk b4 (.cells #[.string H.Name, .slice a1 n1 c1, .slice a2 n2 c2, .slice a3 n3 c3, .slice a4 n4 c4, .slice a5 n5 c5] 28)] ++ S)) w := hw
  repeat (first | refine byW ?_ | (refine byV ?_; intro w hw))
  refine W_loop (fun μ ρ w => ∃ (k : Nat), μ + k = 64 ∧ Has ρ [(1, .int .i64 r), (4, .pointer (some ⟨b4, 0, none⟩)), (8, .pointer (some ⟨b8, 0, none⟩)), (9, .int .i64 0), (12, .map (some bg)), (17, .pointer (some ⟨pb, 0, none⟩)), (18, .pointer (some ⟨b18, 0, none⟩)), (20, .int .i64 k)] ∧ Wd Γ (.blk b18 (.cells (enc (findC H.Cores r).1).toArray 53) :: plB pb bb cost bc :: AdjP bc (chK H r ms k) :: btwP bb H a1 n1 c1 a2 n2 c2 a3 n3 c3 a4 n4 c4 a5 n5 c5 :: AdjP bg (grpL H ms) :: ([.blk b8 (.cells #[.int .i64 0, .slice none 0 0] 32), .blk b4 (.cells #[.string H.Name, .slice a1 n1 c1, .slice a2 n2 c2, .slice a3 n3 c3, .slice a4 n4 c4, .slice a5 n5 c5] 28)] ++ S)) w) 64 ⟨0, by omega, ⟨rfl, rfl, rfl, rfl, rfl, rfl, rfl, rfl, trivial⟩, by rw [chK_zero]; exact hw⟩ ?_
  clear hw
  rintro μ ρ w ⟨k, hk, hρ, hw⟩
  rw [hρ.eq]
  clear hρ
  repeat (first | refine byW ?_ | (refine byV ?_; intro w hw))
  refine W_cond rfl (fun h => ?_) (fun h => ?_)
  · have hkn : k < 64 := by have := of_decide_eq_true h; omega
    clear h
    obtain ⟨lg, vg, hng, hg0, hzg, hw⟩ := adjP_open (k : Int) (hw.ps [4])
    obtain ⟨av, cv, rfl, hncv, hccv⟩ := ints_len hw (i := 1) rfl
    have hglen : (grpL H ms (k : Int)).length ≤ 1000 := Nat.le_trans grpL_len hms
    have hclen : (chK H r ms k r).length ≤ 1000 := Nat.le_trans chK_len hms
    generalize hnv : (grpL H ms (k : Int)).length = nv at hw hzg hncv hglen
    have hw : Wd Γ (.own (.slice av nv cv) 3 1 (intRows (grpL H ms (k : Int))) :: .blk b18 (.cells (enc (findC H.Cores r).1).toArray 53) :: adjM bg lg :: plB pb bb cost bc :: AdjP bc (chK H r ms k) :: btwP bb H a1 n1 c1 a2 n2 c2 a3 n3 c3 a4 n4 c4 a5 n5 c5 :: .blk b8 (.cells #[.int .i64 0, .slice none 0 0] 32) :: .blk b4 (.cells #[.string H.Name, .slice a1 n1 c1, .slice a2 n2 c2, .slice a3 n3 c3, .slice a4 n4 c4, .slice a5 n5 c5] 28) :: ((restL lg (k : Int)).map (chO (grpL H ms)) ++ S)) w := hw.perm byPM
    repeat (first | refine byW ?_ | (refine byV ?_; intro w hw))
    refine lY (v := .slice av nv cv) ?_ (hy := y_lookupZ hw hzg (i := 2) rfl rfl rfl)
    repeat (first | refine byW ?_ | (refine byV ?_; intro w hw))
    have hend : ∀ {N : Int → List Int} {w : World}, N = chK H r ms (k + 1) → Wd Γ (AdjP bc N :: (([Res.own (.slice av nv cv) 3 1 (intRows (grpL H ms (k : Int))), .blk b18 (.cells (enc (findC H.Cores r).1).toArray 53), btwP bb H a1 n1 c1 a2 n2 c2 a3 n3 c3 a4 n4 c4 a5 n5 c5, .blk b8 (.cells #[.int .i64 0, .slice none 0 0] 32), .blk b4 (.cells #[.string H.Name, .slice a1 n1 c1, .slice a2 n2 c2, .slice a3 n3 c3, .slice a4 n4 c4, .slice a5 n5 c5] 28)] ++ (adjM bg lg :: ((restL lg (k : Int)).map (chO (grpL H ms)) ++ S))) ++ [plB pb bb cost bc])) w → Wd Γ (.blk b18 (.cells (enc (findC H.Cores r).1).toArray 53) :: plB pb bb cost bc :: AdjP bc (chK H r ms (k + 1)) :: btwP bb H a1 n1 c1 a2 n2 c2 a3 n3 c3 a4 n4 c4 a5 n5 c5 :: AdjP bg (grpL H ms) :: ([.blk b8 (.cells #[.int .i64 0, .slice none 0 0] 32), .blk b4 (.cells #[.string H.Name, .slice a1 n1 c1, .slice a2 n2 c2, .slice a3 n3 c3, .slice a4 n4 c4, .slice a5 n5 c5] 28)] ++ S)) w := fun {N w} hN hw => by
      subst hN
      have hw := adjP_close hng hg0 hzg (S := .blk b18 (.cells (enc (findC H.Cores r).1).toArray 53) :: plB pb bb cost bc :: AdjP bc (chK H r ms (k + 1)) :: btwP bb H a1 n1 c1 a2 n2 c2 a3 n3 c3 a4 n4 c4 a5 n5 c5 :: ([.blk b8 (.cells #[.int .i64 0, .slice none 0 0] 32), .blk b4 (.cells #[.string H.Name, .slice a1 n1 c1, .slice a2 n2 c2, .slice a3 n3 c3, .slice a4 n4 c4, .slice a5 n5 c5] 28)] ++ S)) (hw.perm byPM)
      exact hw.perm byPM
    refine W_cond rfl (fun h => ?_) (fun h => ?_)
    · have h : (decide ((k : Int) = (findC H.Cores r).1.Node) || decide ((nv : Int) = 0)) = true := h
      have hcase : (k : Int) = coreN H r ∨ grpL H ms (k : Int) = [] := by
        simp only [Bool.or_eq_true, decide_eq_true_eq] at h
        exact h.imp id fun h => List.eq_nil_of_length_eq_zero (by omega)
      obtain ⟨l, vv, hnl, hl0, hz, hw⟩ := adjP_open r (hw.ps [4])
      obtain ⟨a0, c0, rfl, hnc0, hcc0⟩ := ints_len hw (i := 1) rfl
      have hw : Wd Γ ([.own (.slice av nv cv) 3 1 (intRows (grpL H ms (k : Int))), plB pb bb cost bc] ++ (adjM bc l :: .own (.slice a0 (chK H r ms k r).length c0) 3 1 (intRows (chK H r ms k r)) :: ((restL l r).map (chO (chK H r ms k)) ++ ([.blk b18 (.cells (enc (findC H.Cores r).1).toArray 53), btwP bb H a1 n1 c1 a2 n2 c2 a3 n3 c3 a4 n4 c4 a5 n5 c5, .blk b8 (.cells #[.int .i64 0, .slice none 0 0] 32), .blk b4 (.cells #[.string H.Name, .slice a1 n1 c1, .slice a2 n2 c2, .slice a3 n3 c3, .slice a4 n4 c4, .slice a5 n5 c5] 28)] ++ (adjM bg lg :: ((restL lg (k : Int)).map (chO (grpL H ms)) ++ S)))))) w := hw.perm byPM
      generalize hm0 : (chK H r ms k r).length = m0 at hw hnc0 hcc0 hz hclen
      repeat (first | refine byW ?_ | (refine byV ?_; intro w hw))
      refine W_mix2 [.own (.slice av nv cv) 3 1 (intRows (grpL H ms (k : Int))), plB pb bb cost bc] _ [[],[],[],[],[],[],[],[],[],[],[],[],[0],[0]] [[],[],[],[],[],[],[],[],[],[],[0],[],[0],[0]] [[117], []] hw ?_
      repeat (first | refine mY ?_ | refine mP ?_ | refine mPg ?_)
      refine mY (v := .slice a0 m0 c0) ?_ (hy := fun Y w g hw => y_lookupZ hw hz (i := 2) rfl rfl rfl)
      repeat (first | refine mY ?_ | refine mP ?_ | refine mPg ?_)
      refine mAppK (j := 1) (m2 := nv) (rows2 := intRows (grpL H ms (k : Int))) ?_ (fun Y w hw => hw.own_rd (i := 0) rfl) (by simp [intRows, hnv]) (fun u hu => (List.all_eq_true.1 (ints1 _)) u hu)
      refine mPutV (j := 0) ?_
      refine mEnd fun w g hw => ?_
      have hw := Wd.dropEnd hw
      have hw : Wd Γ ([.own (.slice av nv cv) 3 1 (intRows (grpL H ms (k : Int))), plB pb bb cost bc] ++ (adjM bc (aSet l r (g 117)) :: .own (g 117) 3 1 (intRows (chK H r ms k r) ++ intRows (grpL H ms (k : Int))) :: ((restL l r).map (chO (chK H r ms k)) ++ ([.blk b18 (.cells (enc (findC H.Cores r).1).toArray 53), btwP bb H a1 n1 c1 a2 n2 c2 a3 n3 c3 a4 n4 c4 a5 n5 c5, .blk b8 (.cells #[.int .i64 0, .slice none 0 0] 32), .blk b4 (.cells #[.string H.Name, .slice a1 n1 c1, .slice a2 n2 c2, .slice a3 n3 c3, .slice a4 n4 c4, .slice a5 n5 c5] 28)] ++ (adjM bg lg :: ((restL lg (k : Int)).map (chO (grpL H ms)) ++ S)))))) w := hw
      rw [← intRows_app] at hw
      have hw := adjP_set hnl hl0 (S := ([Res.own (.slice av nv cv) 3 1 (intRows (grpL H ms (k : Int))), .blk b18 (.cells (enc (findC H.Cores r).1).toArray 53), btwP bb H a1 n1 c1 a2 n2 c2 a3 n3 c3 a4 n4 c4 a5 n5 c5, .blk b8 (.cells #[.int .i64 0, .slice none 0 0] 32), .blk b4 (.cells #[.string H.Name, .slice a1 n1 c1, .slice a2 n2 c2, .slice a3 n3 c3, .slice a4 n4 c4, .slice a5 n5 c5] 28)] ++ (adjM bg lg :: ((restL lg (k : Int)).map (chO (grpL H ms)) ++ S))) ++ [plB pb bb cost bc]) (hw.perm byPM)
      have hN : addI (chK H r ms k) r (grpL H ms (k : Int)) = chK H r ms (k + 1) := by rw [chK_succ hrm, if_pos hcase]
      have hw := hend hN hw
      repeat (first | refine byW ?_ | (refine byV ?_; intro w hw))
      exact ⟨μ - 1, by omega, k + 1, by omega, ⟨rfl, rfl, rfl, rfl, rfl, rfl, rfl, rfl, trivial⟩, hw⟩
    have h : (decide ((k : Int) = (findC H.Cores r).1.Node) || decide ((nv : Int) = 0)) = false := h
    have hcase : ¬ ((k : Int) = coreN H r ∨ grpL H ms (k : Int) = []) := by
      simp only [Bool.or_eq_false_iff, decide_eq_false_iff_not] at h
      rintro (e | e)
      · exact h.1 e
      · rw [e] at hnv; simp at hnv; omega
    clear h
    obtain ⟨g0, gs, hgs⟩ : ∃ g0 gs, grpL H ms (k : Int) = g0 :: gs := by
      cases hq : grpL H ms (k : Int) with
      | nil => exact absurd (.inr hq) hcase
      | cons a b => exact ⟨a, b, rfl⟩
    repeat (first | refine byW ?_ | (refine byV ?_; intro w hw))
    refine lCall ((minF_any (x0 := g0) (xs := gs) (v := .slice av nv cv) (by rw [hgs] at hnv; simp at hnv; omega) (S := .blk b18 (.cells (enc (findC H.Cores r).1).toArray 53) :: adjM bg lg :: plB pb bb cost bc :: AdjP bc (chK H r ms k) :: btwP bb H a1 n1 c1 a2 n2 c2 a3 n3 c3 a4 n4 c4 a5 n5 c5 :: .blk b8 (.cells #[.int .i64 0, .slice none 0 0] 32) :: ((restL lg (k : Int)).map (chO (grpL H ms)) ++ S)) (by rw [← hgs]; exact hw.ps [7])).mono fun e w hq => ?_)
    obtain ⟨rfl, hw⟩ := hq
    have hfw : minF (spdC H) g0 gs = fwdL H (grpL H ms (k : Int)) := by rw [hgs]; rfl
    rw [← hgs, hfw] at *
    refine ⟨_, rfl, ?_⟩
    repeat (first | refine byW ?_ | (refine byV ?_; intro w hw))
    have hw := hw.ps [5]
    obtain ⟨l, vv, hnl, hl0, hz, hw⟩ := adjP_open r hw
    obtain ⟨a0, c0, rfl, hnc0, hcc0⟩ := ints_len hw (i := 1) rfl
    have hw : Wd Γ ([plB pb bb cost bc] ++ (adjM bc l :: .own (.slice a0 (chK H r ms k r).length c0) 3 1 (intRows (chK H r ms k r)) :: ((restL l r).map (chO (chK H r ms k)) ++ ([Res.own (.slice av nv cv) 3 1 (intRows (grpL H ms (k : Int))), .blk b18 (.cells (enc (findC H.Cores r).1).toArray 53), btwP bb H a1 n1 c1 a2 n2 c2 a3 n3 c3 a4 n4 c4 a5 n5 c5, .blk b8 (.cells #[.int .i64 0, .slice none 0 0] 32), .blk b4 (.cells #[.string H.Name, .slice a1 n1 c1, .slice a2 n2 c2, .slice a3 n3 c3, .slice a4 n4 c4, .slice a5 n5 c5] 28)] ++ (adjM bg lg :: ((restL lg (k : Int)).map (chO (grpL H ms)) ++ S)))))) w := hw.perm byPM
    generalize hm0 : (chK H r ms k r).length = m0 at hw hnc0 hcc0 hz
    repeat (first | refine byW ?_ | (refine byV ?_; intro w hw))
    refine W_mix2 [plB pb bb cost bc] _ [[],[],[],[],[],[],[],[],[],[],[],[],[1],[0],[0]] [[],[],[],[],[],[],[],[],[],[],[0],[],[1],[0,1],[0]] [[134], [133]] hw ?_
    repeat (first | refine mY ?_ | refine mP ?_ | refine mPg ?_)
    refine mY (v := .slice a0 m0 c0) ?_ (hy := fun Y w g hw => y_lookupZ hw hz (i := 1) rfl rfl rfl)
    repeat (first | refine mY ?_ | refine mP ?_ | refine mPg ?_)
    refine mBuild (cells := [.int .i64 (fwdL H (grpL H ms (k : Int)))]) [[.int .i64 (fwdL H (grpL H ms (k : Int)))]] ?_
    refine mApp (j := 1) ?_
    refine mPutV (j := 0) ?_
    refine mEnd fun w g hw => ?_
    have hw := Wd.dropEnd hw
    have hw : Wd Γ ([plB pb bb cost bc] ++ (adjM bc (aSet l r (g 134)) :: .own (g 134) 3 1 (intRows (chK H r ms k r) ++ intRows [(fwdL H (grpL H ms (k : Int)))]) :: ((restL l r).map (chO (chK H r ms k)) ++ ([Res.own (.slice av nv cv) 3 1 (intRows (grpL H ms (k : Int))), .blk b18 (.cells (enc (findC H.Cores r).1).toArray 53), btwP bb H a1 n1 c1 a2 n2 c2 a3 n3 c3 a4 n4 c4 a5 n5 c5, .blk b8 (.cells #[.int .i64 0, .slice none 0 0] 32), .blk b4 (.cells #[.string H.Name, .slice a1 n1 c1, .slice a2 n2 c2, .slice a3 n3 c3, .slice a4 n4 c4, .slice a5 n5 c5] 28)] ++ (adjM bg lg :: ((restL lg (k : Int)).map (chO (grpL H ms)) ++ S)))))) w := hw
    rw [← intRows_app] at hw
    have hw := adjP_set hnl hl0 (S := ([Res.own (.slice av nv cv) 3 1 (intRows (grpL H ms (k : Int))), .blk b18 (.cells (enc (findC H.Cores r).1).toArray 53), btwP bb H a1 n1 c1 a2 n2 c2 a3 n3 c3 a4 n4 c4 a5 n5 c5, .blk b8 (.cells #[.int .i64 0, .slice none 0 0] 32), .blk b4 (.cells #[.string H.Name, .slice a1 n1 c1, .slice a2 n2 c2, .slice a3 n3 c3, .slice a4 n4 c4, .slice a5 n5 c5] 28)] ++ (adjM bg lg :: ((restL lg (k : Int)).map (chO (grpL H ms)) ++ S))) ++ [plB pb bb cost bc]) (hw.perm byPM)
    generalize g 134 = gg at hw
    clear hz hm0
    repeat (first | refine byW ?_ | (refine byV ?_; intro w hw))
    generalize hN0 : addI (chK H r ms k) r [fwdL H (grpL H ms (k : Int))] = N0 at hw
    refine W_loop (fun μ ρ w => ∃ (j : Nat) (N : Int → List Int), μ + j = nv ∧ N = addI N0 (fwdL H (grpL H ms (k : Int))) (((grpL H ms (k : Int)).take j).filter fun y => decide (y ≠ fwdL H (grpL H ms (k : Int)))) ∧ Has ρ [(1, .int .i64 r), (4, .pointer (some ⟨b4, 0, none⟩)), (8, .pointer (some ⟨b8, 0, none⟩)), (9, .int .i64 0), (12, .map (some bg)), (17, .pointer (some ⟨pb, 0, none⟩)), (18, .pointer (some ⟨b18, 0, none⟩)), (20, .int .i64 k), (22, .int .i64 (fwdL H (grpL H ms (k : Int)))), (135, .slice av nv cv), (136, .int .i64 nv), (137, .int .i64 j)] ∧ Wd Γ (AdjP bc N :: (([Res.own (.slice av nv cv) 3 1 (intRows (grpL H ms (k : Int))), .blk b18 (.cells (enc (findC H.Cores r).1).toArray 53), btwP bb H a1 n1 c1 a2 n2 c2 a3 n3 c3 a4 n4 c4 a5 n5 c5, .blk b8 (.cells #[.int .i64 0, .slice none 0 0] 32), .blk b4 (.cells #[.string H.Name, .slice a1 n1 c1, .slice a2 n2 c2, .slice a3 n3 c3, .slice a4 n4 c4, .slice a5 n5 c5] 28)] ++ (adjM bg lg :: ((restL lg (k : Int)).map (chO (grpL H ms)) ++ S))) ++ [plB pb bb cost bc])) w) nv ⟨0, N0, by omega, by rw [List.take_zero, List.filter_nil, addI_nil], ⟨rfl, rfl, rfl, rfl, rfl, rfl, rfl, rfl, rfl, rfl, rfl, rfl, trivial⟩, hw⟩ ?_
    clear hw
    rintro μ2 ρ w ⟨j, N, hj, hN, hρ, hw⟩
    rw [hρ.eq]
    clear hρ
    repeat (first | refine byW ?_ | (refine byV ?_; intro w hw))
    refine W_cond rfl (fun h => ?_) (fun h => ?_)
    · have hjn : j < nv := by have := of_decide_eq_true h; omega
      obtain ⟨y, hy⟩ := get_lt (l := grpL H ms (k : Int)) (k := j) (by omega)
      have hw := hw.ps [1]
      repeat (first | refine byW ?_ | (refine byV ?_; intro w hw))
      refine W_cond rfl (fun h2 => ?_) (fun h2 => ?_)
      · have h2 : y ≠ fwdL H (grpL H ms (k : Int)) := by simpa using h2
        have hw := hw.ps [1]
        have hNlen : (N (fwdL H (grpL H ms (k : Int)))).length ≤ 3000 := by
          rw [hN, ← hN0]
          unfold addI
          rw [if_pos rfl]
          have h1 : (chK H r ms k (fwdL H (grpL H ms (k : Int)))).length ≤ 1000 := Nat.le_trans chK_len hms
          have h3 : (((grpL H ms (k : Int)).take j).filter fun y => decide (y ≠ fwdL H (grpL H ms (k : Int)))).length ≤ 1000 := Nat.le_trans (List.length_filter_le _ _) (by simp; omega)
          split <;> simp only [List.length_append, List.length_cons, List.length_nil] <;> omega
        obtain ⟨l, vv, hnl, hl0, hz, hw⟩ := adjP_open (fwdL H (grpL H ms (k : Int))) hw
        obtain ⟨a0, c0, rfl, hnc0, hcc0⟩ := ints_len hw (i := 1) rfl
        have hw : Wd Γ ([plB pb bb cost bc] ++ (adjM bc l :: .own (.slice a0 (N (fwdL H (grpL H ms (k : Int)))).length c0) 3 1 (intRows (N (fwdL H (grpL H ms (k : Int))))) :: ((restL l (fwdL H (grpL H ms (k : Int)))).map (chO (N)) ++ ([Res.own (.slice av nv cv) 3 1 (intRows (grpL H ms (k : Int))), .blk b18 (.cells (enc (findC H.Cores r).1).toArray 53), btwP bb H a1 n1 c1 a2 n2 c2 a3 n3 c3 a4 n4 c4 a5 n5 c5, .blk b8 (.cells #[.int .i64 0, .slice none 0 0] 32), .blk b4 (.cells #[.string H.Name, .slice a1 n1 c1, .slice a2 n2 c2, .slice a3 n3 c3, .slice a4 n4 c4, .slice a5 n5 c5] 28)] ++ (adjM bg lg :: ((restL lg (k : Int)).map (chO (grpL H ms)) ++ S)))))) w := hw.perm byPM
        generalize hm0 : (N (fwdL H (grpL H ms (k : Int)))).length = m0 at hw hnc0 hcc0 hz
        repeat (first | refine byW ?_ | (refine byV ?_; intro w hw))
        refine W_mix2 [plB pb bb cost bc] _ [[],[],[],[],[],[],[],[],[],[],[],[],[1],[0],[0]] [[],[],[],[],[],[],[],[],[],[],[0],[],[1],[0,1],[0]] [[157], [156]] hw ?_
        repeat (first | refine mY ?_ | refine mP ?_ | refine mPg ?_)
        refine mY (v := .slice a0 m0 c0) ?_ (hy := fun Y w g hw => y_lookupZ hw hz (i := 1) rfl rfl rfl)
        repeat (first | refine mY ?_ | refine mP ?_ | refine mPg ?_)
        refine mBuild (cells := [.int .i64 y]) [[.int .i64 y]] ?_
        refine mApp (j := 1) ?_
        refine mPutV (j := 0) ?_
        refine mEnd fun w g hw => ?_
        have hw := Wd.dropEnd hw
        have hw : Wd Γ ([plB pb bb cost bc] ++ (adjM bc (aSet l (fwdL H (grpL H ms (k : Int))) (g 157)) :: .own (g 157) 3 1 (intRows (N (fwdL H (grpL H ms (k : Int)))) ++ intRows [y]) :: ((restL l (fwdL H (grpL H ms (k : Int)))).map (chO (N)) ++ ([Res.own (.slice av nv cv) 3 1 (intRows (grpL H ms (k : Int))), .blk b18 (.cells (enc (findC H.Cores r).1).toArray 53), btwP bb H a1 n1 c1 a2 n2 c2 a3 n3 c3 a4 n4 c4 a5 n5 c5, .blk b8 (.cells #[.int .i64 0, .slice none 0 0] 32), .blk b4 (.cells #[.string H.Name, .slice a1 n1 c1, .slice a2 n2 c2, .slice a3 n3 c3, .slice a4 n4 c4, .slice a5 n5 c5] 28)] ++ (adjM bg lg :: ((restL lg (k : Int)).map (chO (grpL H ms)) ++ S)))))) w := hw
        rw [← intRows_app] at hw
        have hw := adjP_set hnl hl0 (S := ([Res.own (.slice av nv cv) 3 1 (intRows (grpL H ms (k : Int))), .blk b18 (.cells (enc (findC H.Cores r).1).toArray 53), btwP bb H a1 n1 c1 a2 n2 c2 a3 n3 c3 a4 n4 c4 a5 n5 c5, .blk b8 (.cells #[.int .i64 0, .slice none 0 0] 32), .blk b4 (.cells #[.string H.Name, .slice a1 n1 c1, .slice a2 n2 c2, .slice a3 n3 c3, .slice a4 n4 c4, .slice a5 n5 c5] 28)] ++ (adjM bg lg :: ((restL lg (k : Int)).map (chO (grpL H ms)) ++ S))) ++ [plB pb bb cost bc]) (hw.perm byPM)
        generalize g 157 = gg at hw
        clear hz hm0
        have hN2 : addI N (fwdL H (grpL H ms (k : Int))) [y] = addI N0 (fwdL H (grpL H ms (k : Int))) (((grpL H ms (k : Int)).take (j + 1)).filter fun y => decide (y ≠ fwdL H (grpL H ms (k : Int)))) := by
          rw [hN, addI_addI, take_succ_of hy, List.filter_append, List.filter_cons_of_pos (by simpa using h2)]; rfl
        repeat (first | refine byW ?_ | (refine byV ?_; intro w hw))
        exact ⟨μ2 - 1, by omega, j + 1, _, by omega, hN2, ⟨rfl, rfl, rfl, rfl, rfl, rfl, rfl, rfl, rfl, rfl, rfl, rfl, trivial⟩, hw⟩
      · have h2 : y = fwdL H (grpL H ms (k : Int)) := by simpa using h2
        have hw := hw.ps [1]
        have hN2 : N = addI N0 (fwdL H (grpL H ms (k : Int))) (((grpL H ms (k : Int)).take (j + 1)).filter fun y => decide (y ≠ fwdL H (grpL H ms (k : Int)))) := by
          rw [hN, take_succ_of hy, List.filter_append, List.filter_cons_of_neg (by simpa using h2), List.filter_nil, List.append_nil]
        repeat (first | refine byW ?_ | (refine byV ?_; intro w hw))
        exact ⟨μ2 - 1, by omega, j + 1, N, by omega, hN2, ⟨rfl, rfl, rfl, rfl, rfl, rfl, rfl, rfl, rfl, rfl, rfl, rfl, trivial⟩, hw⟩
    · have hjn : ¬ j < nv := by have := of_decide_eq_false h; omega
      rw [List.take_of_length_le (by omega)] at hN
      have hN2 : N = chK H r ms (k + 1) := by rw [hN, chK_succ hrm, if_neg hcase, hN0]
      have hw := hend hN2 hw
      repeat (first | refine byW ?_ | (refine byV ?_; intro w hw))
      exact ⟨μ - 1, by omega, k + 1, by omega, ⟨rfl, rfl, rfl, rfl, rfl, rfl, rfl, rfl, trivial⟩, hw⟩
  have hkn : ¬ k < 64 := by have := of_decide_eq_false h; omega
  have hk64 : k = 64 := by omega
  subst hk64
  clear h hkn hk
  have hw : Wd Γ (AdjP bc (chP H r ms) :: .blk b18 (.cells (enc (findC H.Cores r).1).toArray 53) :: plB pb bb cost bc :: btwP bb H a1 n1 c1 a2 n2 c2 a3 n3 c3 a4 n4 c4 a5 n5 c5 :: AdjP bg (grpL H ms) :: ([.blk b8 (.cells #[.int .i64 0, .slice none 0 0] 32), .blk b4 (.cells #[.string H.Name, .slice a1 n1 c1, .slice a2 n2 c2, .slice a3 n3 c3, .slice a4 n4 c4, .slice a5 n5 c5] 28)] ++ S)) w := hw.ps [2]
  unfold AdjP at hw
  obtain ⟨l, ⟨hnl, hl0⟩, hw⟩ := Wd.unpack hw
  have hrch : ∀ a, Rch (chP H r ms) r a → (findC H.Cores a).2 = true := fun a ha => by
    rcases chP_rch ha with rfl | h
    · exact hknr
    · exact hknm a h
  repeat (first | refine byW ?_ | (refine byV ?_; intro w hw))
  refine lCall ((height_any (hhw := hhw') (core := r) (k := 3) hv hc hnl hl0 (fun x => Nat.le_trans chK_len hms) (chP_dep hrm) (by omega) hrch (cur := chP H r ms) (S := .blk b18 (.cells (enc (findC H.Cores r).1).toArray 53) :: AdjP bg (grpL H ms) :: ([.blk b8 (.cells #[.int .i64 0, .slice none 0 0] 32), .blk b4 (.cells #[.string H.Name, .slice a1 n1 c1, .slice a2 n2 c2, .slice a3 n3 c3, .slice a4 n4 c4, .slice a5 n5 c5] 28)] ++ S)) (fun _ _ => .refl _) (by unfold AdjP; exact hw.perm byPM)).mono fun e w hq => ?_)
  obtain ⟨rfl, hw⟩ := hq
  refine ⟨_, rfl, ?_⟩
  generalize hN' : upS (farI H) cost (chP H r ms) (Rch (chP H r ms) r) (chP H r ms) = N' at hw
  have hNs : ∀ a, Rch (chP H r ms) r a → N' a = srt (farI H) cost (chP H r ms) a := fun a ha => by rw [← hN']; exact upS_in ha
  have hw : Wd Γ (AdjP bc N' :: plB pb bb cost bc :: .blk b8 (.cells #[.int .i64 0, .slice none 0 0] 32) :: S) w := by
    have hw : Wd Γ ((adjM bc l :: l.map (chO N')) ++ (plB pb bb cost bc :: .blk b8 (.cells #[.int .i64 0, .slice none 0 0] 32) :: S)) w := by
      have h2 : Wd Γ ([btwP bb H a1 n1 c1 a2 n2 c2 a3 n3 c3 a4 n4 c4 a5 n5 c5, .blk b18 (.cells (enc (findC H.Cores r).1).toArray 53), AdjP bg (grpL H ms), .blk b4 (.cells #[.string H.Name, .slice a1 n1 c1, .slice a2 n2 c2, .slice a3 n3 c3, .slice a4 n4 c4, .slice a5 n5 c5] 28)] ++ ((adjM bc l :: l.map (chO N')) ++ (plB pb bb cost bc :: .blk b8 (.cells #[.int .i64 0, .slice none 0 0] 32) :: S))) w := hw.perm byPM
      exact h2.drop.drop.drop.drop
    have := Wd.pack (φ := fun l : List (Int × Value) => (l.map (·.1)).Nodup ∧ ∀ x, aGet l x = none → N' x = []) (R := fun l => adjM bc l :: l.map (chO N')) l ⟨hnl, fun x hx => ?_⟩ hw
    · unfold AdjP; exact this
    · rw [← hN']
      have := upS_perm (far := farI H) (cost := cost) (ch := chP H r ms) (D := Rch (chP H r ms) r) (cur := chP H r ms) (x := x) (.refl _)
      rw [hl0 x hx] at this
      exact this.eq_nil
  have hslen : (srt (farI H) cost (chP H r ms) r).length ≤ 1000 := by rw [(srt_perm r).length_eq]; exact Nat.le_trans chK_len hms
  repeat (first | refine byW ?_ | (refine byV ?_; intro w hw))
  refine lAlloc ?_
  intro b25 w hw
  refine lStore ?_
  intro w hw
  have hw : Wd Γ (.blk b25 (.cells #[.int .i64 r, .slice none 0 0] 32) :: AdjP bc N' :: plB pb bb cost bc :: .blk b8 (.cells #[.int .i64 0, .slice none 0 0] 32) :: S) w := hw
  repeat (first | refine byW ?_ | (refine byV ?_; intro w hw))
  refine lBuildSlice [[.int .i64 r]] ?_
  intro ar w hw
  obtain ⟨l2, v2, hnl2, hl20, hz2, hw⟩ := adjP_open r (hw.ps [2])
  rw [hNs r (.refl r)] at hw
  obtain ⟨a2v, c2v, rfl, hnc2, hcc2⟩ := ints_len hw (i := 1) rfl
  have hw : Wd Γ (.own (.slice (some ar) 1 1) 3 1 (intRows [r]) :: adjM bc l2 :: .own (.slice a2v (srt (farI H) cost (chP H r ms) r).length c2v) 3 1 (intRows (srt (farI H) cost (chP H r ms) r)) :: plB pb bb cost bc :: ((restL l2 r).map (chO N') ++ (.blk b25 (.cells #[.int .i64 r, .slice none 0 0] 32) :: .blk b8 (.cells #[.int .i64 0, .slice none 0 0] 32) :: S))) w := hw.perm byPM
  generalize hL : srt (farI H) cost (chP H r ms) r = L at *
  repeat (first | refine byW ?_ | (refine byV ?_; intro w hw))
  refine lY (v := .slice a2v L.length c2v) ?_ (hy := y_lookupZ hw hz2 (i := 1) rfl rfl rfl)
  repeat (first | refine byW ?_ | (refine byV ?_; intro w hw))
  refine lApp (i := 0) (rows2 := intRows L) ?_ (hw.own_rd (i := 2) rfl) rfl rfl hw rfl (ints1 _) (by simp [intRows])
  intro v' w hw
  have hw : Wd Γ (.own v' 3 1 (intRows (r :: L)) :: adjM bc l2 :: .own (.slice a2v L.length c2v) 3 1 (intRows L) :: plB pb bb cost bc :: ((restL l2 r).map (chO N') ++ (.blk b25 (.cells #[.int .i64 r, .slice none 0 0] 32) :: .blk b8 (.cells #[.int .i64 0, .slice none 0 0] 32) :: S))) w := hw
  have hw := adjP_close (N := N') hnl2 hl20 hz2 (S := .own v' 3 1 (intRows (r :: L)) :: plB pb bb cost bc :: (.blk b25 (.cells #[.int .i64 r, .slice none 0 0] 32) :: .blk b8 (.cells #[.int .i64 0, .slice none 0 0] 32) :: S)) (by rw [hNs r (.refl r), hL]; exact hw.perm byPM)
  have hw := hw.ps [1]
  obtain ⟨a0, c0, rfl, hnc0, hcc0⟩ := ints_len hw (i := 0) rfl
  have hn0 : (r :: L).length ≤ 1001 := by simp; omega
  have hLs : ∀ x ∈ r :: L, Rch (chP H r ms) r x := fun x hx => by
    rcases List.mem_cons.1 hx with rfl | hx
    · exact .refl _
    · rw [← hL] at hx; exact .step ((srt_perm r).mem_iff.1 hx) (.refl x)
  generalize hRL : r :: L = RL at *
  generalize hnr : RL.length = nr at *
  have hw : Wd Γ (.own (.slice a0 nr c0) 3 1 (intRows RL) :: AdjP bc N' :: plB pb bb cost bc :: .blk b8 (.cells #[.int .i64 0, .slice none 0 0] 32) :: .blk b25 (.cells #[.int .i64 r, .slice none 0 0] 32) :: .own (.slice none 0 0) 60 2 (([] : List Pl).map plV) :: S) w := ((Wd.addNil (a := none) (E := 60) (sz := 2) hw)).perm byPM
  repeat (first | refine byW ?_ | (refine byV ?_; intro w hw))
  refine W_loop (fun μ ρ w => ∃ (i : Nat) (E : List Pl) (ve : Value), μ + i = nr ∧ E = (RL.take i).flatMap (fun f => (srt (farI H) cost (chP H r ms) f).map fun t => (f, t)) ∧ E.length ≤ i * 1000 ∧ Has ρ [(8, .pointer (some ⟨b8, 0, none⟩)), (9, .int .i64 0), (17, .pointer (some ⟨pb, 0, none⟩)), (25, .pointer (some ⟨b25, 0, none⟩)), (172, .slice a0 nr c0), (173, .int .i64 nr), (174, .int .i64 i)] ∧ Wd Γ (.own (.slice a0 nr c0) 3 1 (intRows RL) :: AdjP bc N' :: plB pb bb cost bc :: .blk b8 (.cells #[.int .i64 0, .slice none 0 0] 32) :: .blk b25 (.cells #[.int .i64 r, ve] 32) :: .own ve 60 2 (E.map plV) :: S) w) nr ⟨0, [], _, by omega, by simp, by simp, ⟨rfl, rfl, rfl, rfl, rfl, rfl, rfl, trivial⟩, hw⟩ ?_
  clear hw
  rintro μ ρ w ⟨i, E, ve, hi, hE, hEl, hρ, hw⟩
  rw [hρ.eq]
  clear hρ
  repeat (first | refine byW ?_ | (refine byV ?_; intro w hw))
  refine W_cond rfl (fun h => ?_) (fun h => ?_)
  · have hin : i < nr := by have := of_decide_eq_true h; omega
    obtain ⟨x, hx⟩ := get_lt (l := RL) (k := i) (by omega)
    have hxs := hNs x (hLs x (List.mem_of_getElem? hx))
    have hxlen : (srt (farI H) cost (chP H r ms) x).length ≤ 1000 := by rw [(srt_perm x).length_eq]; exact Nat.le_trans chK_len hms
    repeat (first | refine byW ?_ | (refine byV ?_; intro w hw))
    obtain ⟨l3, v3, hnl3, hl30, hz3, hw⟩ := adjP_open x (hw.ps [1])
    rw [hxs] at hw
    obtain ⟨a3v, c3v, rfl, hnc3, hcc3⟩ := ints_len hw (i := 1) rfl
    have hw : Wd Γ (.own (.slice a3v (srt (farI H) cost (chP H r ms) x).length c3v) 3 1 (intRows (srt (farI H) cost (chP H r ms) x)) :: .own ve 60 2 (E.map plV) :: .blk b25 (.cells #[.int .i64 r, ve] 32) :: plB pb bb cost bc :: adjM bc l3 :: .own (.slice a0 nr c0) 3 1 (intRows RL) :: .blk b8 (.cells #[.int .i64 0, .slice none 0 0] 32) :: ((restL l3 x).map (chO N') ++ S)) w := hw.perm byPM
    generalize hM : srt (farI H) cost (chP H r ms) x = M at *
    generalize hnx : M.length = nx at *
    repeat (first | refine byW ?_ | (refine byV ?_; intro w hw))
    refine lY (v := .slice a3v nx c3v) ?_ (hy := y_lookupZ hw hz3 (i := 4) rfl rfl rfl)
    repeat (first | refine byW ?_ | (refine byV ?_; intro w hw))
    refine W_loop (fun μ ρ w => ∃ (j : Nat) (ve : Value), μ + j = nx ∧ Has ρ [(8, .pointer (some ⟨b8, 0, none⟩)), (9, .int .i64 0), (17, .pointer (some ⟨pb, 0, none⟩)), (25, .pointer (some ⟨b25, 0, none⟩)), (27, .int .i64 x), (172, .slice a0 nr c0), (173, .int .i64 nr), (174, .int .i64 i), (183, .slice a3v nx c3v), (184, .int .i64 nx), (185, .int .i64 j)] ∧ Wd Γ (.own (.slice a3v nx c3v) 3 1 (intRows M) :: .own ve 60 2 ((E ++ (M.take j).map fun t => (x, t)).map plV) :: .blk b25 (.cells #[.int .i64 r, ve] 32) :: plB pb bb cost bc :: adjM bc l3 :: .own (.slice a0 nr c0) 3 1 (intRows RL) :: .blk b8 (.cells #[.int .i64 0, .slice none 0 0] 32) :: ((restL l3 x).map (chO N') ++ S)) w) nx ⟨0, ve, by omega, ⟨rfl, rfl, rfl, rfl, rfl, rfl, rfl, rfl, rfl, rfl, rfl, trivial⟩, by rw [List.take_zero, List.map_nil, List.append_nil]; exact hw⟩ ?_
    clear hw
    rintro μ2 ρ w ⟨j, ve, hj, hρ, hw⟩
    rw [hρ.eq]
    clear hρ
    repeat (first | refine byW ?_ | (refine byV ?_; intro w hw))
    refine W_cond rfl (fun h => ?_) (fun h => ?_)
    · have hjn : j < nx := by have := of_decide_eq_true h; omega
      obtain ⟨y, hy⟩ := get_lt (l := M) (k := j) (by omega)
      obtain ⟨av, nv, cv, rfl, hnv, hncv, -⟩ := hw.own_shape (i := 1) rfl
      have hnv : nv = E.length + j := by rw [hnv]; simp; omega
      repeat (first | refine byW ?_ | (refine byV ?_; intro w hw))
      refine lBuildSlice [plV (x, y)] ?_
      intro asl w hw
      have hw := hw.ps [2]
      repeat (first | refine byW ?_ | (refine byV ?_; intro w hw))
      refine lApp (i := 0) (rows2 := [plV (x, y)]) ?_ (hw.own_rd (i := 1) rfl) rfl rfl hw rfl rfl rfl
      intro v' w hw
      have hw : Wd Γ (.own v' 60 2 ((E ++ (M.take j).map fun t => (x, t)).map plV ++ [plV (x, y)]) :: .own (.slice (some asl) 1 1) 60 2 [plV (x, y)] :: .own (.slice a3v nx c3v) 3 1 (intRows M) :: .blk b25 (.cells #[.int .i64 r, .slice av nv cv] 32) :: plB pb bb cost bc :: adjM bc l3 :: .own (.slice a0 nr c0) 3 1 (intRows RL) :: .blk b8 (.cells #[.int .i64 0, .slice none 0 0] 32) :: ((restL l3 x).map (chO N') ++ S)) w := hw
      obtain ⟨av2, nv2, cv2, rfl, -⟩ := hw.own_shape (i := 0) rfl
      repeat (first | refine byW ?_ | (refine byV ?_; intro w hw))
      refine lStore ?_
      intro w hw
      have hw : Wd Γ (.own (.slice (some asl) 1 1) 60 2 [plV (x, y)] :: .own (.slice a3v nx c3v) 3 1 (intRows M) :: .own (.slice av2 nv2 cv2) 60 2 ((E ++ (M.take j).map fun t => (x, t)).map plV ++ [plV (x, y)]) :: .blk b25 (.cells #[.int .i64 r, .slice av2 nv2 cv2] 32) :: plB pb bb cost bc :: adjM bc l3 :: .own (.slice a0 nr c0) 3 1 (intRows RL) :: .blk b8 (.cells #[.int .i64 0, .slice none 0 0] 32) :: ((restL l3 x).map (chO N') ++ S)) w := hw.ps [2, 2]
      have hw := hw.drop
      have e : (E ++ (M.take j).map fun t => (x, t)).map plV ++ [plV (x, y)] = (E ++ (M.take (j + 1)).map fun t => (x, t)).map plV := by
        rw [take_succ_of hy]; simp
      rw [e] at hw
      repeat (first | refine byW ?_ | (refine byV ?_; intro w hw))
      exact ⟨μ2 - 1, by omega, j + 1, _, by omega, ⟨rfl, rfl, rfl, rfl, rfl, rfl, rfl, rfl, rfl, rfl, rfl, trivial⟩, hw⟩
    · have hjn : ¬ j < nx := by have := of_decide_eq_false h; omega
      rw [List.take_of_length_le (by omega)] at hw
      have hw := adjP_close (N := N') hnl3 hl30 hz3 (S := .own ve 60 2 ((E ++ M.map fun t => (x, t)).map plV) :: .blk b25 (.cells #[.int .i64 r, ve] 32) :: plB pb bb cost bc :: .own (.slice a0 nr c0) 3 1 (intRows RL) :: .blk b8 (.cells #[.int .i64 0, .slice none 0 0] 32) :: S) (by rw [hxs]; exact hw.perm byPM)
      have hw : Wd Γ (.own (.slice a0 nr c0) 3 1 (intRows RL) :: AdjP bc N' :: plB pb bb cost bc :: .blk b8 (.cells #[.int .i64 0, .slice none 0 0] 32) :: .blk b25 (.cells #[.int .i64 r, ve] 32) :: .own ve 60 2 ((E ++ M.map fun t => (x, t)).map plV) :: S) w := hw.perm byPM
      repeat (first | refine byW ?_ | (refine byV ?_; intro w hw))
      refine ⟨μ - 1, by omega, i + 1, _, ve, by omega, ?_, ?_, ⟨rfl, rfl, rfl, rfl, rfl, rfl, rfl, trivial⟩, hw⟩
      · rw [take_succ_of hx, List.flatMap_append, ← hE]; simp [hM]
      · simp only [List.length_append, List.length_map]; omega
  · have hin : ¬ i < nr := by have := of_decide_eq_false h; omega
    rw [List.take_of_length_le (by omega)] at hE
    have hE : E = planE H r ms cost := by rw [hE, ← hRL]; unfold planE; rw [hL]
    rw [hE] at hw
    obtain ⟨av, nv, cv, rfl, -⟩ := hw.own_shape (i := 5) rfl
    have hw := hw.ps [5, 5]
    repeat (first | refine byW ?_ | (refine byV ?_; intro w hw))
    refine lStore ?_
    intro w hw
    have hw : Wd Γ (.own (.slice av nv cv) 60 2 ((planE H r ms cost).map plV) :: .blk b8 (.cells #[.int .i64 r, .slice av nv cv] 32) :: S) w := hw.ds [0, 1, 1, 1]
    repeat (first | refine byW ?_ | (refine byV ?_; intro w hw))
    exact ⟨[_, _], ⟨resC (i := 1) hw rfl rfl rfl, rfl, trivial⟩, _, rfl, hw.ds [1]⟩
end Go.Proofs.YteiijmclobggjaaGreat
end
/- The chapter's sanity check, walked. -/
section
open Go Mk
namespace Go.Proofs.YteiijmclobggjaaGreat
set_option maxHeartbeats 16000000
attribute [local irreducible] Calls
instance shortL_one {α : Type} {x : α} : ShortL [x] := ⟨by simp⟩
theorem awake_core {Γ : Gho} {w : World} (hw : Wd Γ [] w) : Calls Tryz.prog 9 #[] w fun e w' => ∃ Γ', Γ.le Γ' ∧ e = .returned (.bool true) ∧ Wd Γ' [] w' := by
  refine calls_of_W Tryz.func9 rfl rfl ?_
  repeat (first | refine byW ?_ | (refine byV ?_; intro w hw))
  refine lBuildSlice (awH.Cores.map enc) ?_
  intro a1 w hw
  repeat (first | refine byW ?_ | (refine byV ?_; intro w hw))
  refine lBuildSlice (awH.Links.map enc) ?_
  intro a3 w hw
  have hw : Wd Γ (.own (.slice (some a3) 2 2) 56 3 (awH.Links.map enc) :: .own (.slice (some a1) 2 2) 53 4 (awH.Cores.map enc) :: []) w := hw
  obtain ⟨Γ1, e1, r3, hw⟩ := hw.freeze
  obtain ⟨Γ2, e2, r1, hw⟩ := hw.freeze
  have hR : HwR Γ2 (.agg #[.string awH.Name, .slice (some a1) 2 2, .slice none 0 0, .slice (some a3) 2 2, .slice none 0 0, .slice none 0 0]) awH :=
    ⟨_, _, _, _, _, _, _, _, _, _, _, _, _, _, _, [], rfl, rfl, (by simp), aw_sz, r1, .nil, r3.mono e2, .nil, .nil⟩
  repeat (first | refine byW ?_ | (refine byV ?_; intro w hw))
  refine lAlloc ?_
  intro b1 w hw
  refine lStore ?_
  intro w hw
  have hw : Wd Γ2 (.blk b1 (.cells #[.string awH.Name, .slice (some a1) 2 2, .slice none 0 0, .slice (some a3) 2 2, .slice none 0 0, .slice none 0 0] 28) :: []) w := hw
  have hd := aw_dist
  repeat (first | refine byW ?_ | (refine byV ?_; intro w hw))
  refine lCall ((Path_any (hh := hR) 0 2 hw).mono fun e w hq => ?_)
  obtain ⟨vp, p, err, rfl, hp, hw⟩ := hq
  obtain ⟨rfl, rfl⟩ := aw_path hp
  refine ⟨_, rfl, ?_⟩
  obtain ⟨ap, np, cp, rfl, hnp, -⟩ := hw.own_shape (i := 0) rfl
  obtain ⟨Γ3, e3, r4, hw⟩ := hw.freeze
  haveI hR3 := hR.mono e3
  repeat (first | refine byW ?_ | (refine byV ?_; intro w hw))
  refine lBuildSlice (intRows [1]) ?_
  intro a5 w hw
  obtain ⟨Γ4, e4, r5, hw⟩ := hw.freeze
  haveI hR4 := hR3.mono e4
  repeat (first | refine byW ?_ | (refine byV ?_; intro w hw))
  haveI hs5 : SlC Γ4 (.slice (some a5) 1 1) 1 (intRows [1]) := ⟨r5⟩
  refine lCall ((plan_any (hhw := hR4) (hr := hs5) 0 3 hw).mono fun e w hq => ?_)
  obtain ⟨vo, rfl, hw⟩ := hq
  rw [aw_planS.2, aw_planS.1] at *
  refine ⟨_, rfl, ?_⟩
  obtain ⟨ao, no, co, rfl, hno, -⟩ := hw.own_shape (i := 0) rfl
  have hno : no = 1 := by simpa using hno
  subst hno
  obtain ⟨Γ5, e5, r6, hw⟩ := hw.freeze
  haveI hR5 := hR4.mono e5
  haveI hs6 : SlC Γ5 (.slice ao 1 co) 2 ([((0, 1) : Pl)].map plV) := ⟨r6⟩
  repeat (first | refine byW ?_ | (refine byV ?_; intro w hw))
  refine lAlloc ?_
  intro b6 w hw
  refine lStore ?_
  intro w hw
  have hw : Wd Γ5 (.blk b6 (.cells #[.int .i64 0, .slice ao 1 co] 32) :: .blk b1 (.cells #[.string awH.Name, .slice (some a1) 2 2, .slice none 0 0, .slice (some a3) 2 2, .slice none 0 0, .slice none 0 0] 28) :: []) w := hw
  repeat (first | refine byW ?_ | (refine byV ?_; intro w hw))
  refine L_has (l := [(4, .slice ap np cp), (5, .int .i64 0), (6, .pointer (some ⟨b6, 0, none⟩)), (7, .int .i64 0), (8, .int .i64 15), (9, .int .i64 0), (45, .bool true), (46, .slice ap np cp)]) ⟨rfl, rfl, rfl, rfl, congrArg (Value.int .i64) aw_comp.1, congrArg (Value.int .i64) aw_comp.2, val_b rfl (by rw [aw_dist]; rfl), gvT (by rw [aw_dist]; rfl) rfl, trivial⟩ fun ρ' hρ' => ?_
  rw [hρ'.eq]
  clear hρ'
  repeat (first | (first | refine W_seq ?_ | refine W_block ?_ | refine W_region ?_ | refine W_skip ?_ | refine W_ret ?_ | refine W_exit ?_) | ((first | apply L_bin | apply L_notop); first | (refine lT ?_ ?_; (first | exact rfl | exact decide_eq_true rfl | (simp; done))) | (refine lF ?_ ?_; (first | exact rfl | exact decide_eq_true rfl | (simp; done)))) | (first | refine L_nil ?_ | (apply L_plain; first | (apply L_go; first | refine lP ?_ | (refine lPg ?_; intro w hw)) | (apply L_mf; refine lMakeFunc ?_) | refine lY ?_) | (apply L_guarded; first | refine lGT ?_ | refine lGF ?_ | (apply L_go; first | refine lPG ?_ | (refine lPgG ?_; intro w hw)) | refine lG ?_)) | (refine lAlloc ?_; intro _ w hw) | (refine lBox ?_; intro _ w hw) | (refine lStore ?_; intro w hw))
  refine lBuildSlice (intRows [0, 1, 2]) ?_
  intro a7 w hw
  obtain ⟨Γ6, e6, r7, hw⟩ := hw.freeze
  haveI hs7 : SlC Γ6 (.slice (some a7) 3 3) 1 (intRows [0, 1, 2]) := ⟨r7⟩
  haveI hs8 : SlC Γ6 (.slice ap np cp) 1 (intRows [0, 1, 2]) := ⟨r4.mono (e4.trans (e5.trans e6))⟩
  haveI hC : PG Tryz.prog Γ6 18 [.slice ap np cp, .slice (some a7) 3 3] (.bool true) := by
    have := pg_SameInts (Γ := Γ6) (v := .slice ap np cp) (v2 := .slice (some a7) 3 3) (xs := [0, 1, 2]) (ys := [0, 1, 2])
    rwa [decide_eq_true rfl] at this
  repeat (first | (first | refine W_seq ?_ | refine W_block ?_ | refine W_region ?_ | refine W_skip ?_ | refine W_ret ?_ | refine W_exit ?_) | ((first | apply L_bin | apply L_notop); first | (refine lT ?_ ?_; (first | exact rfl | exact decide_eq_true rfl | (simp; done))) | (refine lF ?_ ?_; (first | exact rfl | exact decide_eq_true rfl | (simp; done)))) | (first | refine L_nil ?_ | (apply L_plain; first | (apply L_go; first | refine lP ?_ | (refine lPg ?_; intro w hw)) | (apply L_mf; refine lMakeFunc ?_) | refine lY ?_) | (apply L_guarded; first | refine lGT ?_ | refine lGF ?_ | (apply L_go; first | refine lPG ?_ | (refine lPgG ?_; intro w hw)) | refine lG ?_)) | (refine lAlloc ?_; intro _ w hw) | (refine lBox ?_; intro _ w hw) | (refine lStore ?_; intro w hw))
  exact ⟨_, rfl, Γ6, e1.trans (e2.trans (e3.trans (e4.trans (e5.trans e6)))), rfl, hw.ds [0, 0]⟩
instance pg_awake {Γ : Gho} : PG Tryz.prog Γ 9 [] (.bool true) := ⟨fun S w hw =>
  (awake_core (allG_wd w)).mono fun e w' ⟨Γ', hle, he, hw'⟩ => ⟨he, wd_kept hw (wd_less hle hw')⟩⟩
end Go.Proofs.YteiijmclobggjaaGreat
end
/- The descriptions made of numbers are valid: nesting; and Validate says so. -/
section
open Go Mk
namespace Go.Proofs.YteiijmclobggjaaGreat
set_option maxHeartbeats 4000000
attribute [local irreducible] Calls
section
variable {H : HwT} {nodes sh first irq : Int}
end
end Go.Proofs.YteiijmclobggjaaGreat
end
/- Sums along a path; what Distance and Path answer for cores of a valid description. -/
section
open Go Mk
namespace Go.Proofs.YteiijmclobggjaaGreat

theorem lats_ok {ls : List LinkT} (h : LinksOk ls) : ∀ l ∈ ls, 0 ≤ l.Latency ∧ l.Latency ≤ 1000000 := fun l hl => by
  have := h.2 l hl; omega

/-! ### cores of a valid description -/
theorem valid_keys {H : HwT} (h : validS H = 0) : (H.Links.map linkKey).Nodup := by
  obtain ⟨-, -, -, -, h5, -⟩ := valid_all h
  unfold uniqueB at h5
  simp only [Bool.and_eq_true, decide_eq_true_eq] at h5
  exact h5.2.2
end Go.Proofs.YteiijmclobggjaaGreat
end
/- The walk through multikernelkit.Hardware (printed by a program). -/
section
open Go Mk
namespace Go.Proofs.YteiijmclobggjaaGreat
set_option maxHeartbeats 16000000
attribute [local irreducible] Calls
end Go.Proofs.YteiijmclobggjaaGreat
end
/- RouteMetric, walked. -/
section
open Go Mk
namespace Go.Proofs.YteiijmclobggjaaGreat
set_option maxHeartbeats 16000000
attribute [local irreducible] Calls
end Go.Proofs.YteiijmclobggjaaGreat
end
/- The kit's Subset and the parties of a tree, walked. -/
section
open Go Mk
namespace Go.Proofs.YteiijmclobggjaaGreat
set_option maxHeartbeats 16000000
attribute [local irreducible] Calls
end Go.Proofs.YteiijmclobggjaaGreat
end
/- RouteFastest, walked. -/
section
open Go Mk
namespace Go.Proofs.YteiijmclobggjaaGreat
set_option maxHeartbeats 16000000
attribute [local irreducible] Calls
end Go.Proofs.YteiijmclobggjaaGreat
end
/- RouteSpans, walked. -/
section
open Go Mk
namespace Go.Proofs.YteiijmclobggjaaGreat
set_option maxHeartbeats 16000000
attribute [local irreducible] Calls
/-! ### who enters a node -/
section
variable {H : HwT} {r : Int} {ms : List Int} {cost : Int}
end
end Go.Proofs.YteiijmclobggjaaGreat
end
/- A matrix of 64 by 64 numbers in one block; the reference's Matrix, walked. -/
section
open Go Mk
namespace Go.Proofs.YteiijmclobggjaaGreat
set_option maxHeartbeats 16000000
attribute [local irreducible] Calls
def matL (D : Mx) : List Value := (List.range 4096).map fun n => .int .i64 (D ((n / 64 : Nat) : Int) ((n % 64 : Nat) : Int))
theorem matL_len (D : Mx) : (matL D).length = 4096 := by simp [matL]
theorem matL_one (D : Mx) : ∀ v ∈ matL D, v.oneCell' = true := by simp [matL, Value.oneCell']
theorem matL_get (D : Mx) {n : Nat} (h : n < 4096) : (matL D)[n]? = some (.int .i64 (D ((n / 64 : Nat) : Int) ((n % 64 : Nat) : Int))) := by
  unfold matL
  rw [List.getElem?_map, List.getElem?_range h]; rfl
theorem matL_at (D : Mx) {a b : Int} (ha : nIn a) (hb : nIn b) : (matL D)[a.toNat * 64 + b.toNat]? = some (.int .i64 (D a b)) := by
  unfold nIn at ha hb
  rw [matL_get D (by omega)]
  rw [show (((a.toNat * 64 + b.toNat) / 64 : Nat) : Int) = a by omega, show (((a.toNat * 64 + b.toNat) % 64 : Nat) : Int) = b by omega]
theorem matL_set (D : Mx) {a b v : Int} (ha : nIn a) (hb : nIn b) : (matL D).set (a.toNat * 64 + b.toNat) (.int .i64 v) = matL (updM D a b v) := by
  unfold nIn at ha hb
  refine List.ext_getElem? fun n => ?_
  rw [List.getElem?_set]
  by_cases h : n < 4096
  · rw [matL_get _ h, matL_get _ h]
    unfold updM
    by_cases e : a.toNat * 64 + b.toNat = n
    · rw [if_pos e, if_pos (by rw [matL_len]; omega), if_pos (by omega)]
    · rw [if_neg e, if_neg (by omega)]
  · rw [List.getElem?_eq_none (by rw [matL_len]; omega), List.getElem?_eq_none (by rw [matL_len]; omega)]
    split
    · rw [if_neg (by rw [matL_len]; omega)]
    · rfl
/-- The cells of a matrix, read and written. -/
theorem getM (D : Mx) {a b : Int} (ha : nIn a) (hb : nIn b) : (matL D).toArray[0 + a.toNat * 64 + b.toNat * 1]? = some (.int .i64 (D a b)) := by
  rw [show 0 + a.toNat * 64 + b.toNat * 1 = a.toNat * 64 + b.toNat by omega]
  simpa using matL_at D ha hb
theorem putM (D : Mx) {a b v : Int} (ha : nIn a) (hb : nIn b) : putCells (matL D).toArray (0 + a.toNat * 64 + b.toNat * 1) [.int .i64 v] = (matL (updM D a b v)).toArray := by
  rw [← matL_set D ha hb]
  unfold putCells
  have hl : a.toNat * 64 + b.toNat < (matL D).length := by rw [matL_len]; unfold nIn at ha hb; omega
  rw [show 0 + a.toNat * 64 + b.toNat * 1 = a.toNat * 64 + b.toNat by omega, List.set_eq_take_append_cons_drop, if_pos hl]
  simp
theorem matL_congr {D D' : Mx} (h : ∀ a b, nIn a → nIn b → D a b = D' a b) : matL D = matL D' := by
  unfold matL
  refine List.map_congr_left fun n hn => ?_
  have : n < 4096 := by simpa using hn
  rw [h _ _ (by unfold nIn; omega) (by unfold nIn; omega)]
theorem matL_zero : List.replicate 4096 (.int .i64 0) = matL fun _ _ => 0 := by
  refine List.ext_getElem? fun n => ?_
  rw [List.getElem?_replicate]
  by_cases h : n < 4096
  · rw [matL_get _ h, if_pos h]
  · rw [List.getElem?_eq_none (by rw [matL_len]; omega), if_neg h]
set_option maxRecDepth 100000 in
instance tz_mat : TZ Tryz.prog 85 (List.replicate 4096 (.int .i64 0)) := ⟨by kernel_rfl⟩
end Go.Proofs.YteiijmclobggjaaGreat
end
/- The reference's Matrix, walked (printed by gen_j3.py). -/
section
open Go Mk
namespace Go.Proofs.YteiijmclobggjaaGreat
set_option maxHeartbeats 32000000
attribute [local irreducible] Calls
attribute [local irreducible] matL
def initM (i k : Int) : Mx := fun a b => if a < i then (if a = b then 0 else -1) else if a = i ∧ b < k then -1 else 0
theorem valid_endsR {H : HwT} (h : validS H = 0) {l : LinkT} (hl : l ∈ H.Links) : l.A ≠ l.B := by
  obtain ⟨-, h2, h3, -⟩ := valid_all h
  unfold coresRB at h3
  simp only [Bool.and_eq_true] at h3
  have := List.all_eq_true.1 h3.1.2.2 l hl
  unfold linkRB at this
  simp only [Bool.and_eq_true, decide_eq_true_eq] at this
  exact this.1.2
theorem initM_row {i k : Int} : matL (updM (initM i k) i k (-1)) = matL (initM i (k + 1)) := matL_congr fun a b _ _ => by
  unfold updM initM
  by_cases e : a = i ∧ b = k
  · rw [if_pos e, if_neg (by omega), if_pos (by omega)]
  · rw [if_neg e]
    by_cases e1 : a < i
    · rw [if_pos e1, if_pos e1]
    · rw [if_neg e1, if_neg e1]
      by_cases e2 : a = i ∧ b < k
      · rw [if_pos e2, if_pos (by omega)]
      · rw [if_neg e2, if_neg (by omega)]
theorem initM_diag {i : Int} : matL (updM (initM i 64) i i 0) = matL (initM (i + 1) 0) := matL_congr fun a b ha hb => by
  unfold nIn at ha hb
  unfold updM initM
  by_cases e : a = i ∧ b = i
  · rw [if_pos e, if_pos (show a < i + 1 by omega), if_pos (show a = b by omega)]
  · rw [if_neg e]
    by_cases e1 : a < i
    · rw [if_pos e1, if_pos (show a < i + 1 by omega)]
    · rw [if_neg e1]
      by_cases e2 : a = i
      · rw [if_pos (show a = i ∧ b < 64 by omega), if_pos (show a < i + 1 by omega), if_neg (show ¬ a = b by omega)]
      · rw [if_neg (show ¬ (a = i ∧ b < 64) by omega), if_neg (show ¬ a < i + 1 by omega), if_neg (show ¬ (a = i + 1 ∧ b < 0) by omega)]
theorem initM_start : matL (fun _ _ => 0) = matL (initM 0 0) := matL_congr fun a b ha hb => by
  unfold nIn at ha hb
  unfold initM
  rw [if_neg (by omega), if_neg (by omega)]
theorem initM_end : matL (initM 64 0) = matL (linkD []) := matL_congr fun a b ha hb => by
  unfold nIn at ha hb
  unfold initM linkD
  rw [if_pos (by omega)]; rfl
/-- All distances. -/
noncomputable def dstM (H : HwT) : Mx := fun a b => dstI (nbrL H.Links) a b
set_option maxRecDepth 8000 in
theorem Matrix_any {Γ : Gho} {u : Value} {H : HwT} [hh : HwR Γ u H] (hv : validS H = 0) {S : List Res} {w : World} (hw : Wd Γ S w) :
    Calls Tryz.prog 37 #[u] w fun e w' => e = .returned (.agg (matL (dstM H)).toArray) ∧ Wd Γ S w' := by
  obtain ⟨a1, n1, c1, a2, n2, c2, a3, n3, c3, a4, n4, c4, a5, n5, c5, cs, rfl, hcs, hok, hsz, r1, r2, r3, r4, r5⟩ := hh.h
  obtain ⟨hn3, hm3, hx3⟩ := rep_facts r3
  simp only [List.length_map] at hn3
  have hLk := valid_links hv
  have hLM : LinkM H.Links (linkD H.Links) := linkD_ok _ rfl (fun l hl => ⟨valid_endsR hv hl, (lats_ok hLk l hl).1⟩) (valid_keys hv)
  refine calls_of_WC Tryz.func37 rfl rfl ?_
  repeat (first | refine byW ?_ | (refine byV ?_; intro w hw))
  refine lBox ?_
  intro b1 w hw
  refine lAlloc ?_
  intro b2 w hw
  rw [matL_zero] at hw
  have hw : Wd Γ (.blk b2 (.cells (matL (fun _ _ => 0)).toArray 85) :: .blk b1 (hwC H a1 n1 c1 a2 n2 c2 a3 n3 c3 a4 n4 c4 a5 n5 c5) :: S) w := hw
  repeat (first | refine byW ?_ | (refine byV ?_; intro w hw))
  refine lAlloc ?_
  intro b3 w hw
  rw [matL_zero] at hw
  have hw : Wd Γ (.blk b3 (.cells (matL (fun _ _ => 0)).toArray 85) :: .blk b2 (.cells (matL (fun _ _ => 0)).toArray 85) :: .blk b1 (hwC H a1 n1 c1 a2 n2 c2 a3 n3 c3 a4 n4 c4 a5 n5 c5) :: S) w := hw
  rw [initM_start] at hw
  repeat (first | refine byW ?_ | (refine byV ?_; intro w hw))
  have hBW : Wd Γ (.blk b3 (.cells (matL (initM 0 0)).toArray 85) :: .blk b2 (.cells (matL (fun _ _ => 0)).toArray 85) :: .blk b1 (hwC H a1 n1 c1 a2 n2 c2 a3 n3 c3 a4 n4 c4 a5 n5 c5) :: S) w := by rw [initM_start]; exact hw
  clear hw
  refine W_loop (fun μ ρ w => ∃ i : Nat, μ + i = 64 ∧ Has ρ [(1, .pointer (some ⟨b1, 0, none⟩)), (2, .pointer (some ⟨b2, 0, none⟩)), (3, .pointer (some ⟨b3, 0, none⟩)), (4, .int .i64 i)] ∧ Wd Γ (.blk b3 (.cells (matL (initM i 0)).toArray 85) :: .blk b2 (.cells (matL (fun _ _ => 0)).toArray 85) :: .blk b1 (hwC H a1 n1 c1 a2 n2 c2 a3 n3 c3 a4 n4 c4 a5 n5 c5) :: S) w) 64 ⟨0, by omega, ⟨rfl, rfl, rfl, rfl, trivial⟩, hBW⟩ ?_
  clear hBW
  rintro μ ρ w ⟨i, hi, hρ, hw⟩
  rw [hρ.eq]
  clear hρ
  repeat (first | refine byW ?_ | (refine byV ?_; intro w hw))
  refine W_cond rfl (fun h => ?_) (fun h => ?_)
  · have hin : i < 64 := by have := of_decide_eq_true h; omega
    clear h
    have hiI : nIn (i : Int) := by unfold nIn; omega
    repeat (first | refine byW ?_ | (refine byV ?_; intro w hw))
    refine W_loop (fun μ2 ρ w => ∃ k : Nat, μ2 + k = 64 ∧ Has ρ [(1, .pointer (some ⟨b1, 0, none⟩)), (2, .pointer (some ⟨b2, 0, none⟩)), (3, .pointer (some ⟨b3, 0, none⟩)), (4, .int .i64 i), (5, .int .i64 k)] ∧ Wd Γ (.blk b3 (.cells (matL (initM i k)).toArray 85) :: .blk b2 (.cells (matL (fun _ _ => 0)).toArray 85) :: .blk b1 (hwC H a1 n1 c1 a2 n2 c2 a3 n3 c3 a4 n4 c4 a5 n5 c5) :: S) w) 64 ⟨0, by omega, ⟨rfl, rfl, rfl, rfl, rfl, trivial⟩, hw⟩ ?_
    clear hw
    rintro μ2 ρ w ⟨k, hk, hρ, hw⟩
    rw [hρ.eq]
    clear hρ
    repeat (first | refine byW ?_ | (refine byV ?_; intro w hw))
    refine W_cond rfl (fun h => ?_) (fun h => ?_)
    · have hkn : k < 64 := by have := of_decide_eq_true h; omega
      clear h
      have hkI : nIn (k : Int) := by unfold nIn; omega
      repeat (first | refine byW ?_ | (refine byV ?_; intro w hw))
      refine lStore (i := 0) (o := 0 + (i : Int).toNat * 64 + (k : Int).toNat * 1) (ho := by rw [List.size_toArray, matL_len]; omega) ?_
      intro w hw
      have hw : Wd Γ (.blk b3 (.cells (putCells (matL (initM i k)).toArray (0 + (i : Int).toNat * 64 + (k : Int).toNat * 1) [.int .i64 (-1)]) 85) :: .blk b2 (.cells (matL (fun _ _ => 0)).toArray 85) :: .blk b1 (hwC H a1 n1 c1 a2 n2 c2 a3 n3 c3 a4 n4 c4 a5 n5 c5) :: S) w := hw
      rw [putM _ hiI hkI, initM_row] at hw
      repeat (first | refine byW ?_ | (refine byV ?_; intro w hw))
      exact ⟨μ2 - 1, by omega, k + 1, by omega, ⟨rfl, rfl, rfl, rfl, rfl, trivial⟩, hw⟩
    · have hkn : k = 64 := by have := of_decide_eq_false h; omega
      subst hkn
      clear h
      have hw : Wd Γ (.blk b3 (.cells (matL (initM i 64)).toArray 85) :: .blk b2 (.cells (matL (fun _ _ => 0)).toArray 85) :: .blk b1 (hwC H a1 n1 c1 a2 n2 c2 a3 n3 c3 a4 n4 c4 a5 n5 c5) :: S) w := hw
      repeat (first | refine byW ?_ | (refine byV ?_; intro w hw))
      refine lStore (i := 0) (o := 0 + (i : Int).toNat * 64 + (i : Int).toNat * 1) (ho := by rw [List.size_toArray, matL_len]; omega) ?_
      intro w hw
      have hw : Wd Γ (.blk b3 (.cells (putCells (matL (initM i 64)).toArray (0 + (i : Int).toNat * 64 + (i : Int).toNat * 1) [.int .i64 0]) 85) :: .blk b2 (.cells (matL (fun _ _ => 0)).toArray 85) :: .blk b1 (hwC H a1 n1 c1 a2 n2 c2 a3 n3 c3 a4 n4 c4 a5 n5 c5) :: S) w := hw
      rw [putM _ hiI hiI, initM_diag] at hw
      repeat (first | refine byW ?_ | (refine byV ?_; intro w hw))
      exact ⟨μ - 1, by omega, i + 1, by omega, ⟨rfl, rfl, rfl, rfl, trivial⟩, hw⟩
  have hin : i = 64 := by have := of_decide_eq_false h; omega
  subst hin
  clear h hi
  have hw : Wd Γ (.blk b3 (.cells (matL (initM 64 0)).toArray 85) :: .blk b2 (.cells (matL (fun _ _ => 0)).toArray 85) :: .blk b1 (hwC H a1 n1 c1 a2 n2 c2 a3 n3 c3 a4 n4 c4 a5 n5 c5) :: S) w := hw
  rw [initM_end, show ([] : List LinkT) = H.Links.take 0 from rfl] at hw
  repeat (first | refine byW ?_ | (refine byV ?_; intro w hw))
  refine W_loop (fun μ ρ w => ∃ k : Nat, μ + k = n3 ∧ Has ρ [(1, .pointer (some ⟨b1, 0, none⟩)), (2, .pointer (some ⟨b2, 0, none⟩)), (3, .pointer (some ⟨b3, 0, none⟩)), (6, .int .i64 k)] ∧ Wd Γ (.blk b3 (.cells (matL (linkD (H.Links.take k))).toArray 85) :: .blk b2 (.cells (matL (fun _ _ => 0)).toArray 85) :: .blk b1 (hwC H a1 n1 c1 a2 n2 c2 a3 n3 c3 a4 n4 c4 a5 n5 c5) :: S) w) n3 ⟨0, by omega, ⟨rfl, rfl, rfl, rfl, trivial⟩, hw⟩ ?_
  clear hw
  rintro μ ρ w ⟨k, hk, hρ, hw⟩
  rw [hρ.eq]
  clear hρ
  repeat (first | refine byW ?_ | (refine byV ?_; intro w hw))
  refine W_cond rfl (fun h => ?_) (fun h => ?_)
  · have hkn : k < n3 := by have := of_decide_eq_true h; omega
    clear h
    obtain ⟨l, hl⟩ := get_lt (l := H.Links) (k := k) (by omega)
    obtain ⟨hA0, hA1, hB0, hB1, -⟩ := hLk.2 l (List.mem_of_getElem? hl)
    have hAI : nIn l.A := ⟨hA0, hA1⟩
    have hBI : nIn l.B := ⟨hB0, hB1⟩
    have hsn := linkD_snoc hl
    generalize linkD (H.Links.take k) = D at *
    repeat (first | refine byW ?_ | (refine byV ?_; intro w hw))
    refine lAlloc ?_
    intro b7 w hw
    refine lStore ?_
    intro w hw
    have hw : Wd Γ ([.blk b7 (.cells (enc l).toArray 56)] ++ (.blk b3 (.cells (matL (D)).toArray 85) :: .blk b2 (.cells (matL (fun _ _ => 0)).toArray 85) :: .blk b1 (hwC H a1 n1 c1 a2 n2 c2 a3 n3 c3 a4 n4 c4 a5 n5 c5) :: S)) w := hw
    repeat (first | refine byW ?_ | (refine byV ?_; intro w hw))
    refine W_mix1 [.blk b7 (.cells (enc l).toArray 56)] _ [[],[],[],[],[],[],[],[],[0]] [[],[],[],[],[],[],[],[],[0]] hw ?_
    repeat (first | refine mY ?_ | refine mP ?_ | refine mPg ?_)
    refine mStoreC (o := 0 + l.A.toNat * 64 + l.B.toNat * 1) (ho := by rw [List.size_toArray, matL_len]; omega) ?_
    refine mEnd0 ?_
    clear hw
    intro w hw
    have hw : Wd Γ ([.blk b7 (.cells (enc l).toArray 56)] ++ ((.blk b3 (.cells (putCells (matL D).toArray (0 + l.A.toNat * 64 + l.B.toNat * 1) [.int .i64 l.Latency]) 85) :: .blk b2 (.cells (matL (fun _ _ => 0)).toArray 85) :: .blk b1 (hwC H a1 n1 c1 a2 n2 c2 a3 n3 c3 a4 n4 c4 a5 n5 c5) :: S) ++ [])) w := hw
    rw [putM _ hAI hBI, List.append_nil] at hw
    repeat (first | refine byW ?_ | (refine byV ?_; intro w hw))
    refine W_mix1 [.blk b7 (.cells (enc l).toArray 56)] _ [[],[],[],[],[],[],[],[],[0]] [[],[],[],[],[],[],[],[],[0]] hw ?_
    repeat (first | refine mY ?_ | refine mP ?_ | refine mPg ?_)
    refine mStoreC (o := 0 + l.B.toNat * 64 + l.A.toNat * 1) (ho := by rw [List.size_toArray, matL_len]; omega) ?_
    refine mEnd0 ?_
    clear hw
    intro w hw
    have hw : Wd Γ ([.blk b7 (.cells (enc l).toArray 56)] ++ ((.blk b3 (.cells (putCells (matL (updM D l.A l.B l.Latency)).toArray (0 + l.B.toNat * 64 + l.A.toNat * 1) [.int .i64 l.Latency]) 85) :: .blk b2 (.cells (matL (fun _ _ => 0)).toArray 85) :: .blk b1 (hwC H a1 n1 c1 a2 n2 c2 a3 n3 c3 a4 n4 c4 a5 n5 c5) :: S) ++ [])) w := hw
    rw [putM _ hBI hAI, List.append_nil] at hw
    have hw : Wd Γ (.blk b3 (.cells (matL (linkStep D l)).toArray 85) :: .blk b2 (.cells (matL (fun _ _ => 0)).toArray 85) :: .blk b1 (hwC H a1 n1 c1 a2 n2 c2 a3 n3 c3 a4 n4 c4 a5 n5 c5) :: S) w := hw.drop
    rw [hsn] at hw
    repeat (first | refine byW ?_ | (refine byV ?_; intro w hw))
    exact ⟨μ - 1, by omega, k + 1, by omega, ⟨rfl, rfl, rfl, rfl, trivial⟩, hw⟩
  have hkn : ¬ k < n3 := by have := of_decide_eq_false h; omega
  rw [List.take_of_length_le (by omega)] at hw
  clear h hkn hk
  have hF0 : FW (linkD H.Links) (linkD H.Links) 0 0 0 := fun a b ha hb => by
    unfold nIn at ha hb
    rw [if_neg (by omega)]
    exact OkM.zero hLM.neg ha hb
  repeat (first | refine byW ?_ | (refine byV ?_; intro w hw))
  refine W_loop (fun μ ρ w => ∃ (m : Nat) (D : Mx), μ + m = 64 ∧ FW (linkD H.Links) D m 0 0 ∧ Has ρ [(2, .pointer (some ⟨b2, 0, none⟩)), (3, .pointer (some ⟨b3, 0, none⟩)), (8, .int .i64 m)] ∧ Wd Γ (.blk b3 (.cells (matL (D)).toArray 85) :: .blk b2 (.cells (matL (fun _ _ => 0)).toArray 85) :: .blk b1 (hwC H a1 n1 c1 a2 n2 c2 a3 n3 c3 a4 n4 c4 a5 n5 c5) :: S) w) 64 ⟨0, _, by omega, hF0, ⟨rfl, rfl, rfl, trivial⟩, hw⟩ ?_
  clear hw hF0
  rintro μ ρ w ⟨m, D, hm, hF, hρ, hw⟩
  rw [hρ.eq]
  clear hρ
  repeat (first | refine byW ?_ | (refine byV ?_; intro w hw))
  refine W_cond rfl (fun h => ?_) (fun h => ?_)
  · have hmn : m < 64 := by have := of_decide_eq_true h; omega
    clear h
    have hmI : nIn (m : Int) := by unfold nIn; omega
    repeat (first | refine byW ?_ | (refine byV ?_; intro w hw))
    refine W_loop (fun μ2 ρ w => ∃ (i : Nat) (D : Mx), μ2 + i = 64 ∧ FW (linkD H.Links) D m i 0 ∧ Has ρ [(2, .pointer (some ⟨b2, 0, none⟩)), (3, .pointer (some ⟨b3, 0, none⟩)), (8, .int .i64 m), (9, .int .i64 i)] ∧ Wd Γ (.blk b3 (.cells (matL (D)).toArray 85) :: .blk b2 (.cells (matL (fun _ _ => 0)).toArray 85) :: .blk b1 (hwC H a1 n1 c1 a2 n2 c2 a3 n3 c3 a4 n4 c4 a5 n5 c5) :: S) w) 64 ⟨0, D, by omega, hF, ⟨rfl, rfl, rfl, rfl, trivial⟩, hw⟩ ?_
    clear hw hF
    rintro μ2 ρ w ⟨i, D, hi, hF, hρ, hw⟩
    rw [hρ.eq]
    clear hρ
    repeat (first | refine byW ?_ | (refine byV ?_; intro w hw))
    refine W_cond rfl (fun h => ?_) (fun h => ?_)
    · have hin : i < 64 := by have := of_decide_eq_true h; omega
      clear h
      have hiI : nIn (i : Int) := by unfold nIn; omega
      repeat (first | refine byW ?_ | (refine byV ?_; intro w hw))
      refine W_loop (fun μ3 ρ w => ∃ (k : Nat) (D : Mx), μ3 + k = 64 ∧ FW (linkD H.Links) D m i k ∧ Has ρ [(2, .pointer (some ⟨b2, 0, none⟩)), (3, .pointer (some ⟨b3, 0, none⟩)), (8, .int .i64 m), (9, .int .i64 i), (10, .int .i64 k)] ∧ Wd Γ (.blk b3 (.cells (matL (D)).toArray 85) :: .blk b2 (.cells (matL (fun _ _ => 0)).toArray 85) :: .blk b1 (hwC H a1 n1 c1 a2 n2 c2 a3 n3 c3 a4 n4 c4 a5 n5 c5) :: S) w) 64 ⟨0, D, by omega, hF, ⟨rfl, rfl, rfl, rfl, rfl, trivial⟩, hw⟩ ?_
      clear hw hF
      rintro μ3 ρ w ⟨k, D, hk, hF, hρ, hw⟩
      rw [hρ.eq]
      clear hρ
      repeat (first | refine byW ?_ | (refine byV ?_; intro w hw))
      refine W_cond rfl (fun h => ?_) (fun h => ?_)
      · have hkn : k < 64 := by have := of_decide_eq_true h; omega
        clear h
        have hkI : nIn (k : Int) := by unfold nIn; omega
        have g1 := hF.bound hLM hLk hiI hmI
        have g2 := hF.bound hLM hLk hmI hkI
        have g3 := hF.bound hLM hLk hiI hkI
        have hnx := hF.next hmI hiI hkI
        have q1 := getM D hiI hmI
        have q2 := getM D hmI hkI
        have q3 := getM D hiI hkI
        repeat (first | refine byW ?_ | (refine byV ?_; intro w hw))
        refine W_quiet (by kernel_rfl) (by kernel_rfl) hw ?_
        repeat (first | refine Q_nil ?_ | (apply Q_plain; first | (apply Q_go; first | refine qP ?_ | refine qPg ?_) | refine qY ?_) | (apply Q_guarded; first | (apply Q_go; first | refine qPG ?_ | refine qPgG ?_) | refine qG ?_))
        refine qY (v := .int .i64 (D i m)) ?_ (hy := fun w hw => y_l1b (i := 0) hw rfl rfl q1)
        repeat (first | refine Q_nil ?_ | (apply Q_plain; first | (apply Q_go; first | refine qP ?_ | refine qPg ?_) | refine qY ?_) | (apply Q_guarded; first | (apply Q_go; first | refine qPG ?_ | refine qPgG ?_) | refine qG ?_))
        refine qG (v := .int .i64 (D m k)) ?_ (hy := fun hc w hw => y_l1b (i := 0) hw (gvT hc rfl) rfl q2)
        repeat (first | refine Q_nil ?_ | (apply Q_plain; first | (apply Q_go; first | refine qP ?_ | refine qPg ?_) | refine qY ?_) | (apply Q_guarded; first | (apply Q_go; first | refine qPG ?_ | refine qPgG ?_) | refine qG ?_))
        refine qG (v := .int .i64 (D i k)) ?_ (hy := fun hc w hw => y_l1b (i := 0) hw (gvT hc rfl) rfl q3)
        repeat (first | refine Q_nil ?_ | (apply Q_plain; first | (apply Q_go; first | refine qP ?_ | refine qPg ?_) | refine qY ?_) | (apply Q_guarded; first | (apply Q_go; first | refine qPG ?_ | refine qPgG ?_) | refine qG ?_))
        refine qG (v := .int .i64 (D i m)) ?_ (hy := fun hc w hw => y_l1b (i := 0) hw (gvT hc rfl) rfl q1)
        repeat (first | refine Q_nil ?_ | (apply Q_plain; first | (apply Q_go; first | refine qP ?_ | refine qPg ?_) | refine qY ?_) | (apply Q_guarded; first | (apply Q_go; first | refine qPG ?_ | refine qPgG ?_) | refine qG ?_))
        refine qG (v := .int .i64 (D m k)) ?_ (hy := fun hc w hw => y_l1b (i := 0) hw (gvT hc rfl) rfl q2)
        repeat (first | refine Q_nil ?_ | (apply Q_plain; first | (apply Q_go; first | refine qP ?_ | refine qPg ?_) | refine qY ?_) | (apply Q_guarded; first | (apply Q_go; first | refine qPG ?_ | refine qPgG ?_) | refine qG ?_))
        refine qG (v := .int .i64 (D i k)) ?_ (hy := fun hc w hw => y_l1b (i := 0) hw (gvT hc rfl) rfl q3)
        repeat (first | refine Q_nil ?_ | (apply Q_plain; first | (apply Q_go; first | refine qP ?_ | refine qPg ?_) | refine qY ?_) | (apply Q_guarded; first | (apply Q_go; first | refine qPG ?_ | refine qPgG ?_) | refine qG ?_))
        intro w hw
        refine W_cond rfl (fun h => ?_) (fun h => ?_)
        · have h : relaxB D m i k = true := h
          rw [if_pos h] at hnx
          repeat (first | refine byW ?_ | (refine byV ?_; intro w hw))
          refine W_mix1 [] (.blk b3 (.cells (matL (D)).toArray 85) :: .blk b2 (.cells (matL (fun _ _ => 0)).toArray 85) :: .blk b1 (hwC H a1 n1 c1 a2 n2 c2 a3 n3 c3 a4 n4 c4 a5 n5 c5) :: S) [[],[],[],[],[],[],[],[],[],[],[],[],[],[],[],[0]] [[],[],[],[],[],[],[0],[],[],[],[],[0],[],[],[],[0]] hw ?_
          repeat (first | refine mY ?_ | refine mP ?_ | refine mPg ?_)
          refine mY (v := .int .i64 (D i m)) ?_ (hy := fun Y w g hw => y_l1b (i := 0) hw rfl rfl q1)
          repeat (first | refine mY ?_ | refine mP ?_ | refine mPg ?_)
          refine mY (v := .int .i64 (D m k)) ?_ (hy := fun Y w g hw => y_l1b (i := 0) hw rfl rfl q2)
          repeat (first | refine mY ?_ | refine mP ?_ | refine mPg ?_)
          refine mStoreC (o := 0 + (i : Int).toNat * 64 + (k : Int).toNat * 1) (ho := by rw [List.size_toArray, matL_len]; omega) ?_
          refine mEnd0 ?_
          clear hw
          intro w hw
          have hw : Wd Γ ((.blk b3 (.cells (putCells (matL D).toArray (0 + (i : Int).toNat * 64 + (k : Int).toNat * 1) [.int .i64 (D i m + D m k)]) 85) :: .blk b2 (.cells (matL (fun _ _ => 0)).toArray 85) :: .blk b1 (hwC H a1 n1 c1 a2 n2 c2 a3 n3 c3 a4 n4 c4 a5 n5 c5) :: S) ++ []) w := hw
          rw [putM _ hiI hkI, List.append_nil] at hw
          repeat (first | refine byW ?_ | (refine byV ?_; intro w hw))
          exact ⟨μ3 - 1, by omega, k + 1, _, by omega, hnx, ⟨rfl, rfl, rfl, rfl, rfl, trivial⟩, hw⟩
        · have h : relaxB D m i k = false := h
          rw [if_neg (by rw [h]; simp)] at hnx
          repeat (first | refine byW ?_ | (refine byV ?_; intro w hw))
          exact ⟨μ3 - 1, by omega, k + 1, D, by omega, hnx, ⟨rfl, rfl, rfl, rfl, rfl, trivial⟩, hw⟩
      · have hkn : k = 64 := by have := of_decide_eq_false h; omega
        subst hkn
        have hF : FW (linkD H.Links) D m i 64 := hF
        repeat (first | refine byW ?_ | (refine byV ?_; intro w hw))
        exact ⟨μ2 - 1, by omega, i + 1, D, by omega, hF.row, ⟨rfl, rfl, rfl, rfl, trivial⟩, hw⟩
    · have hin : i = 64 := by have := of_decide_eq_false h; omega
      subst hin
      have hF : FW (linkD H.Links) D m 64 0 := hF
      repeat (first | refine byW ?_ | (refine byV ?_; intro w hw))
      exact ⟨μ - 1, by omega, m + 1, D, by omega, hF.phase, ⟨rfl, rfl, rfl, trivial⟩, hw⟩
  have hmn : m = 64 := by have := of_decide_eq_false h; omega
  subst hmn
  have hfin : matL D = matL (dstM H) := matL_congr fun a b ha hb => by
    have h1 := hF a b ha hb
    unfold nIn at ha hb
    rw [if_neg (by omega)] at h1
    exact (OkM.dst hLM hLk ha h1).symm
  rw [hfin] at hw
  generalize dstM H = DM at *
  clear h
  repeat (first | refine byW ?_ | (refine byV ?_; intro w hw))
  refine lY (v := .agg (matL DM).toArray) ?_ (hy := y_lwb (i := 0) hw rfl rfl (by simp [matL_len]))
  refine lStore (i := 1) (vs := matL DM) ?_ (hl := matL_len DM) (h1 := by rw [List.all_eq_true]; exact matL_one DM) (ho := by simp [matL_len]) (hv := by simp [Value.cells])
  intro w hw
  have hw : Wd Γ (.blk b3 (.cells (matL (DM)).toArray 85) :: .blk b2 (.cells (putCells (matL (fun _ _ => 0)).toArray 0 (matL DM)) 85) :: .blk b1 (hwC H a1 n1 c1 a2 n2 c2 a3 n3 c3 a4 n4 c4 a5 n5 c5) :: S) w := hw
  rw [show putCells (matL (fun _ _ => 0)).toArray 0 (matL DM) = (matL DM).toArray from by unfold putCells; simp [matL_len]] at hw
  repeat (first | refine byW ?_ | (refine byV ?_; intro w hw))
  exact ⟨[.agg (matL DM).toArray], ⟨resC (i := 1) hw rfl rfl (by simp [matL_len]), trivial⟩, rfl, hw.ds [0, 0, 0]⟩
end Go.Proofs.YteiijmclobggjaaGreat
end
/- Children of a planned core in the reference: insertion by exchanges is tsort. -/
section
open Go Mk
namespace Go.Proofs.YteiijmclobggjaaGreat
set_option maxHeartbeats 16000000

section
variable {α : Type} {lt : α → α → Bool}
theorem bub_split : ∀ (k : Nat) (A B : List α) (x : α), A.length = k → ∃ A' B', A = A' ++ B' ∧ bub lt k (A ++ x :: B) = A' ++ x :: (B' ++ B) ∧ (∀ b ∈ B', lt x b = true) ∧ (A' = [] ∨ ∃ A0 a, A' = A0 ++ [a] ∧ ¬ lt x a = true)
  | 0, A, B, x, h => by
    have : A = [] := List.length_eq_zero_iff.1 h
    subst this
    exact ⟨[], [], rfl, rfl, by simp, .inl rfl⟩
  | k + 1, A, B, x, h => by
    rcases List.eq_nil_or_concat A with e | ⟨A0, y, e⟩
    · subst e; cases h
    · rw [List.concat_eq_append] at e
      subst e
      have hl : A0.length = k := by simpa using h
      have hx : (A0 ++ [y] ++ x :: B)[k + 1]? = some x := by
        rw [List.getElem?_append_right (by simp [hl])]; simp [hl]
      have hy : (A0 ++ [y] ++ x :: B)[k]? = some y := by
        rw [List.append_assoc, List.getElem?_append_right (by simp [hl])]; simp [hl]
      by_cases c : lt x y = true
      · rw [bub_step hx hy c]
        have e2 : ((A0 ++ [y] ++ x :: B).set (k + 1) y).set k x = A0 ++ x :: (y :: B) := by
          subst hl
          rw [show A0 ++ [y] ++ x :: B = A0 ++ y :: x :: B by simp, List.set_append_right _ _ (by simp), List.set_append_right _ _ (by simp)]
          simp
        rw [e2]
        obtain ⟨A', B', h1, h2, h3, h4⟩ := bub_split k A0 (y :: B) x hl
        exact ⟨A', B' ++ [y], by rw [h1]; simp, by rw [h2]; simp, fun b hb => by
          rcases List.mem_append.1 hb with hb | hb
          · exact h3 b hb
          · rw [List.mem_singleton] at hb; rw [hb]; exact c, h4⟩
      · rw [bub_stop hx hy c]
        exact ⟨A0 ++ [y], [], by simp, by simp, by simp, .inr ⟨A0, y, rfl, c⟩⟩
end
def ltT (t : Int → Int) (x y : Int) : Bool := decide (t y < t x)
theorem tsort_snoc {t : Int → Int} {l : List Int} {x : Int} (hx : ∀ a ∈ l, a < x) : bub (ltT t) l.length (tsort t l ++ [x]) = tsort t (l ++ [x]) := by
  have hp := tsort_perm t l
  have hl : (tsort t l).length = l.length := hp.length_eq
  obtain ⟨A, B, h1, h2, h3, h4⟩ := bub_split (lt := ltT t) l.length (tsort t l) [] x hl
  have hs := tsort_pairwise t l
  rw [h2, List.append_nil]
  rw [h1] at hs
  rw [List.pairwise_append] at hs
  obtain ⟨sA, sB, sAB⟩ := hs
  have hm : ∀ a, a ∈ A ∨ a ∈ B → a < x := fun a ha => hx a (hp.mem_iff.1 (by rw [h1]; simpa using ha))
  have hAx : ∀ a ∈ A, t x ≤ t a := fun a ha => by
    rcases h4 with e | ⟨A0, z, e, hz⟩
    · rw [e] at ha; cases ha
    · have hz : t x ≤ t z := by
        have : ¬ t z < t x := fun h => hz (decide_eq_true h)
        omega
      rw [e] at ha sA
      rw [List.pairwise_append] at sA
      rcases List.mem_append.1 ha with h | h
      · have := sA.2.2 a h z (by simp); omega
      · rw [List.mem_singleton] at h; rw [h]; exact hz
  have hBx : ∀ b ∈ B, t b < t x := fun b hb => by simpa [ltT] using h3 b hb
  have pw : (A ++ x :: B).Pairwise fun x y => t y < t x ∨ (t x = t y ∧ x ≤ y) := by
    rw [List.pairwise_append, List.pairwise_cons]
    refine ⟨sA, ⟨fun b hb => .inl (hBx b hb), sB⟩, fun a ha b hb => ?_⟩
    rcases List.mem_cons.1 hb with rfl | hb
    · have := hAx a ha; have := hm a (.inl ha); omega
    · exact sAB a ha b hb
  have pp : (A ++ x :: B).Perm (tsort t (l ++ [x])) := by
    refine List.Perm.trans ?_ (tsort_perm t (l ++ [x])).symm
    refine List.perm_middle.trans ?_
    rw [← h1]
    refine (List.Perm.cons x hp).trans ?_
    exact (List.perm_append_comm (l₁ := l) (l₂ := [x])).symm
  exact pp.eq_of_pairwise (fun a b _ _ h k => by omega) pw (tsort_pairwise t _)

/-- The cores below c whose parent is x. -/
def kidsTo (P : Int → Int) (x : Int) : Nat → List Int
  | 0 => []
  | c + 1 => if P (c : Int) = x then kidsTo P x c ++ [(c : Int)] else kidsTo P x c
def kids (P : Int → Int) (x : Int) : List Int := kidsTo P x 32
theorem kidsTo_mem {P : Int → Int} {x a : Int} : ∀ {c : Nat}, a ∈ kidsTo P x c ↔ 0 ≤ a ∧ a < (c : Int) ∧ P a = x
  | 0 => by
    unfold kidsTo
    simp only [List.not_mem_nil, false_iff]
    rintro ⟨h1, h2, -⟩
    omega
  | c + 1 => by
    unfold kidsTo
    by_cases e : P (c : Int) = x
    · rw [if_pos e, List.mem_append, kidsTo_mem, List.mem_singleton]
      constructor
      · rintro (⟨h1, h2, h3⟩ | rfl)
        · exact ⟨h1, by omega, h3⟩
        · exact ⟨by omega, by omega, e⟩
      · rintro ⟨h1, h2, h3⟩
        by_cases g : a = (c : Int)
        · exact .inr g
        · exact .inl ⟨h1, by omega, h3⟩
    · rw [if_neg e, kidsTo_mem]
      constructor
      · rintro ⟨h1, h2, h3⟩
        exact ⟨h1, by omega, h3⟩
      · rintro ⟨h1, h2, h3⟩
        have : a ≠ (c : Int) := fun g => e (g ▸ h3)
        exact ⟨h1, by omega, h3⟩
theorem kidsTo_nodup {P : Int → Int} {x : Int} : ∀ {c : Nat}, (kidsTo P x c).Nodup
  | 0 => List.nodup_nil
  | c + 1 => by
    unfold kidsTo
    split
    · rw [List.nodup_append]
      refine ⟨kidsTo_nodup, by simp, fun a ha b hb => ?_⟩
      rw [List.mem_singleton] at hb
      have := (kidsTo_mem.1 ha).2.1
      omega
    · exact kidsTo_nodup
theorem kidsTo_len {P : Int → Int} {x : Int} : ∀ {c : Nat}, (kidsTo P x c).length ≤ c
  | 0 => Nat.le_refl _
  | c + 1 => by
    unfold kidsTo
    have := kidsTo_len (P := P) (x := x) (c := c)
    split
    · simp; omega
    · omega
theorem kidsTo_sub {P : Int → Int} {x a : Int} {c : Nat} (hc : c ≤ 32) (h : a ∈ kidsTo P x c) : a ∈ kids P x := by
  rw [kidsTo_mem] at h
  unfold kids
  rw [kidsTo_mem]
  exact ⟨h.1, by omega, h.2.2⟩
theorem kids_in {P : Int → Int} {t : Int → Int} {x : Int} {c : Nat} (e : P (c : Int) = x) : bub (ltT t) (kidsTo P x c).length (tsort t (kidsTo P x c) ++ [(c : Int)]) = tsort t (kidsTo P x (c + 1)) := by
  rw [tsort_snoc fun a ha => (kidsTo_mem.1 ha).2.1]
  rw [show kidsTo P x (c + 1) = kidsTo P x c ++ [(c : Int)] from if_pos e]
theorem kids_out {P : Int → Int} {x : Int} {c : Nat} (e : ¬ P (c : Int) = x) : kidsTo P x (c + 1) = kidsTo P x c := if_neg e

/-! ### the forwarder -/
def betT (t : Int → Int) (x m : Int) : Bool := decide (t m < t x ∨ (t x = t m ∧ x < m))
/-- The best of a list, begun with m. -/
def bestF (t : Int → Int) : Int → List Int → Int
  | m, [] => m
  | m, x :: l => bestF t (if betT t x m = true then x else m) l
theorem tcmp_bet {t : Int → Int} {x m : Int} : (tcmp t x m < 0) ↔ betT t x m = true := by
  have := @tcmp_lt t x m
  unfold Go.Proofs.ltOf at this
  rw [decide_eq_true_eq] at this
  unfold betT
  rw [this, decide_eq_true_eq]
theorem minF_best {t : Int → Int} : ∀ {l : List Int} {m : Int}, minF t m l = bestF t m l
  | [], _ => rfl
  | x :: l, m => by
    unfold minF bestF
    rw [minF_best]
    by_cases h : tcmp t x m < 0
    · rw [if_pos h, if_pos (tcmp_bet.1 h)]
    · rw [if_neg h, if_neg (fun k => h (tcmp_bet.2 k))]
theorem bestF_mem {t : Int → Int} {l : List Int} {m : Int} : bestF t m l = m ∨ bestF t m l ∈ l := by rw [← minF_best]; exact minF_mem
theorem bestF_le {t : Int → Int} : ∀ {l : List Int} {m : Int}, ∀ a, a = m ∨ a ∈ l → ¬ betT t a (bestF t m l) = true
  | [], m, a, h => by
    rcases h with rfl | h
    · show ¬ betT t a a = true
      unfold betT
      rw [decide_eq_true_eq]; omega
    · cases h
  | x :: l, m, a, h => by
    unfold bestF
    have h2 := fun b => bestF_le (t := t) (l := l) (m := if betT t x m = true then x else m) b
    have hm := h2 _ (.inl rfl)
    generalize hz : bestF t (if betT t x m = true then x else m) l = z at h2 hm ⊢
    by_cases e : betT t x m = true
    · rw [if_pos e] at h2 hm
      rcases h with rfl | h
      · unfold betT at e hm ⊢
        rw [decide_eq_true_eq] at *
        omega
      · rcases List.mem_cons.1 h with rfl | h
        · exact hm
        · exact h2 a (.inr h)
    · rw [if_neg e] at h2 hm
      rcases h with rfl | h
      · exact hm
      · rcases List.mem_cons.1 h with rfl | h
        · unfold betT at e hm ⊢
          rw [decide_eq_true_eq] at *
          omega
        · exact h2 a (.inr h)
theorem bet_anti {t : Int → Int} {a b : Int} (h : ¬ betT t a b = true) (k : ¬ betT t b a = true) : a = b := by
  unfold betT at h k
  rw [decide_eq_true_eq] at h k
  omega
/-- Begun with a member, the best is the forwarder. -/
theorem best_fwd {H : HwT} {l : List Int} {m : Int} (hm : m ∈ l) : bestF (spdC H) m l = fwdL H l := by
  cases l with
  | nil => cases hm
  | cons x l =>
    show _ = minF (spdC H) x l
    rw [minF_best]
    refine bet_anti (t := spdC H) ?_ ?_
    · refine bestF_le _ ?_
      rcases bestF_mem (t := spdC H) (l := x :: l) (m := m) with h | h
      · rw [h]; simpa using hm
      · simpa using h
    · refine bestF_le _ (.inr ?_)
      rcases bestF_mem (t := spdC H) (l := l) (m := x) with h | h
      · rw [h]; simp
      · simp [h]
/-- The parent of a member. -/
noncomputable def fwdS (H : HwT) (r : Int) (ms : List Int) (m : Int) : Int := if coreN H m = coreN H r then r else if fwdL H (grpL H ms (coreN H m)) = m then r else fwdL H (grpL H ms (coreN H m))
noncomputable def parF (H : HwT) (r : Int) (ms : List Int) (l : List Int) (c : Int) : Int := if c ∈ l then fwdS H r ms c else -1
theorem kids_perm {H : HwT} {r : Int} {ms : List Int} (hr : r ∉ ms) (hn : ms.Nodup) (hi : ∀ a ∈ ms, 0 ≤ a ∧ a < 32) (hcn : ∀ a ∈ ms, 0 ≤ coreN H a ∧ coreN H a < 64) {x : Int} (hx : x ≠ -1) : (kids (parF H r ms ms) x).Perm (chP H r ms x) := by
  have hg : ∀ {y}, y ∈ ms → grpL H ms (coreN H y) ≠ [] := fun {y} hy h => by
    have : y ∈ grpL H ms (coreN H y) := grpL_mem.2 ⟨hy, rfl⟩
    rw [h] at this; cases this
  have hroot : ∀ {c}, c ∈ ms → c ∈ rootAt H r ms (coreN H c) → c ∈ chP H r ms r := fun {c} hc h => by
    rw [chP_root]
    refine List.mem_flatMap.2 ⟨(coreN H c).toNat, ?_, ?_⟩
    · have := hcn c hc; simp; omega
    · rw [Int.toNat_of_nonneg (hcn c hc).1]; exact h
  refine (List.perm_ext_iff_of_nodup kidsTo_nodup (chP_nodup hn x)).2 fun c => ?_
  rw [show (c ∈ kidsTo (parF H r ms ms) x 32) = (c ∈ kidsTo (parF H r ms ms) x 32) from rfl, kidsTo_mem]
  unfold parF
  constructor
  · rintro ⟨h0, h1, h2⟩
    by_cases hc : c ∈ ms
    · rw [if_pos hc] at h2
      have hgc := hg hc
      have hfm := fwdL_mem (H := H) hgc
      rw [grpL_mem] at hfm
      unfold fwdS at h2
      by_cases e1 : coreN H c = coreN H r
      · rw [if_pos e1] at h2
        subst h2
        refine hroot hc ?_
        unfold rootAt
        rw [if_pos (.inl e1)]
        exact grpL_mem.2 ⟨hc, rfl⟩
      · rw [if_neg e1] at h2
        by_cases e2 : fwdL H (grpL H ms (coreN H c)) = c
        · rw [if_pos e2] at h2
          subst h2
          refine hroot hc ?_
          unfold rootAt
          rw [if_neg (by rintro (h | h); exact e1 h; exact hgc h), e2]
          simp
        · rw [if_neg e2] at h2
          subst h2
          generalize hf : fwdL H (grpL H ms (coreN H c)) = f at *
          have hfr : f ≠ r := fun e => hr (e ▸ hfm.1)
          unfold chP chK
          rw [if_neg hfr, if_pos, List.mem_filter]
          · exact ⟨grpL_mem.2 ⟨hc, hfm.2.symm⟩, decide_eq_true fun e => e2 e.symm⟩
          · refine ⟨?_, (hcn f hfm.1).1, (hcn f hfm.1).2⟩
            unfold isFwd
            rw [hfm.2, hf]
            exact decide_eq_true ⟨e1, hfm.1, rfl⟩
    · rw [if_neg hc] at h2; exact absurd h2.symm hx
  · intro h
    have hc := chP_mem h
    rw [if_pos hc]
    refine ⟨(hi c hc).1, (hi c hc).2, ?_⟩
    unfold fwdS
    by_cases e : x = r
    · subst e
      have h := chP_root_mem h
      unfold rootAt at h
      by_cases e1 : coreN H c = coreN H x
      · rw [if_pos e1]
      · rw [if_neg (by rintro (h | h); exact e1 h; exact hg hc h), List.mem_singleton] at h
        rw [if_neg e1, if_pos h.symm]
    · obtain ⟨h1, -, -, h2, h3⟩ := chP_other e h
      unfold isFwd at h1
      obtain ⟨k1, -, k2⟩ := of_decide_eq_true h1
      rw [h2, if_neg k1, ← k2, if_neg (fun e => h3 e.symm)]
end Go.Proofs.YteiijmclobggjaaGreat
end
/- A block that is never changed again: frozen, and read. -/
section
open Go
namespace Mk
attribute [local irreducible] Calls
class ImB (Γ : Gho) (b : Nat) (cs : outParam (Array Value)) (E : outParam TypeId) : Prop where h : Γ.imm b = some (.cells cs E (0, 0))
theorem Wd.freezeB {Γ : Gho} {S : List Res} {w : World} {b : Nat} {cs : Array Value} {E : TypeId} (h : Wd Γ (.blk b (.cells cs E) :: S) w) : ∃ Γ', Γ.le Γ' ∧ ImB Γ' b cs E ∧ Wd Γ' S w := by
  obtain ⟨bss, h1, h2, h3⟩ := h.own
  cases bss with
  | nil => exact h1.elim
  | cons bs bss =>
    obtain ⟨hr, h1⟩ := h1
    obtain ⟨e1, e2⟩ : bs = [b] ∧ hp w b = some (.cells cs E) := by unfold Res.blk at hr; exact hr
    subst e1
    have hg := h3 b (by simp)
    have hnd : b ∉ bss.flatten ∧ bss.flatten.Nodup := by simpa using h2
    have hle : ∀ x o, Γ.imm x = some o → (fun x => if x = b then some (Obj.cells cs E (0, 0)) else Γ.imm x) x = some o := fun x o hx => by
      show (if x = b then _ else _) = _
      rw [if_neg (fun hh => by subst hh; rw [hg.2] at hx; cases hx)]; exact hx
    refine ⟨{ Γ with imm := fun x => if x = b then some (.cells cs E (0, 0)) else Γ.imm x }, ⟨hle, rfl, rfl, rfl, rfl⟩, ⟨if_pos rfl⟩, h.os, h.tape, h.out, h.dr, fun x o hb => ?_, bss, Holds.loc hle S bss (fun _ _ => rfl) h1, hnd.2, fun x hb => ⟨(h3 x (by simp [hb])).1, ?_⟩⟩
    · have hb : (if x = b then some (Obj.cells cs E (0, 0)) else Γ.imm x) = some o := hb
      by_cases hbg : x = b
      · subst hbg
        rw [if_pos rfl] at hb; cases hb
        exact e2
      · rw [if_neg hbg] at hb; exact h.imm x o hb
    · show (if x = b then _ else _) = none
      rw [if_neg (fun hh => by subst hh; exact hnd.1 hb)]
      exact (h3 x (by simp [hb])).2
section
variable {P : Program} {Γ : Gho} {S : List Res} {ρ : Fr} {w : World} {d : Option Tmp} {T ty : TypeId} {pos : String} {es : Array Edge} {g : Option (Nat × Bool)} {x : Operand}
theorem y_l1m {b k : Nat} {v : Value} {cs : Array Value} {E : TypeId} [TS P T] [hB : ImB Γ b cs E] (hw : Wd Γ S w) (hx : ev ρ x = .pointer (some ⟨b, k, none⟩)) (hv : cs[k]? = some v) :
    Yields P ⟨d, .load T x, ty, pos, es, g⟩ ρ w v := y_load1 hx (cell_of (hw.imm _ _ hB.h) hv)
theorem y_lpm {b k m : Nat} {cs : Array Value} {vs : List Value} {E : TypeId} [TA P T m] [hB : ImB Γ b cs E] (hw : Wd Γ S w) (hx : ev ρ x = .pointer (some ⟨b, k, none⟩)) (hm : (cs.toList.drop k).take m = vs) (hl : vs.length = m) :
    Yields P ⟨d, .load T x, ty, pos, es, g⟩ ρ w (.agg vs.toArray) := by
  refine y_loadn hx hl ?_
  have := range_of (o := k) (n := m) (hw.imm _ _ hB.h)
  have he : (cs.extract k (k + m)).toList = vs := by rw [← hm]; simp
  rwa [he] at this
end
section
variable {P : Program} {n : Nat} {ops : List Oper} {Γ : Gho} {K : List Res} {wr tc stab : List (List Nat)} {Q : Fr → World → Prop} {i : Nat} {rest : List Oper} {ρ : Fr} {M : Nat → Fr → List Res} {T ty : TypeId} {pos : String} {es : Array Edge} {x : Operand}
/-- A value is boxed, in a drawn region. -/
theorem mBox {c dd : Nat} {v : Value} (h : MSw (mV P n ops Γ K wr tc stab) Q (i + 1) rest ⟨putO ρ (some dd) undef, setC M c fun g => [atP (g dd) fun bb => [.blk bb (.cells v.cells T)]]⟩)
    (hx : ∀ g, ev (ovr stab.flatten g ρ) x = v := by intro g; exact rfl) (ht : tc.getD i [] = [c] := by exact rfl) (hM : M c = (fun _ => []) := by exact rfl) (hs : (stab.getD c []).contains dd = true := by exact rfl) (hf : freeD stab (some dd) = true := by exact rfl) (hw0 : wr.getD i [] = [c] := by exact rfl) :
    MSw (mV P n ops Γ K wr tc stab) Q i (⟨some dd, .box T x, ty, pos, es, none⟩ :: rest) ⟨ρ, M⟩ := by
  refine mM _ (fun Y w g hw => ?_) h hw0 rfl
  have hw1 : Wd Γ (K ++ Y) w := by
    have : cellsAt tc stab i M g = [] := by unfold cellsAt; rw [ht]; simp [hM]
    rw [this] at hw; exact hw
  refine s_box hw1 (hx g) fun b w' hw' => ⟨?_, fun hh => by rw [hf] at hh; cases hh⟩
  have e : cellsAt tc stab i (setC M c fun g => [atP (g dd) fun bb => [.blk bb (.cells v.cells T)]]) (putO g (some dd) (.pointer (some ⟨b, 0, none⟩))) = [atP (.pointer (some ⟨b, 0, none⟩)) fun bb => [.blk bb (.cells v.cells T)]] := by
    unfold cellsAt; rw [ht]
    have h1 : ovr (stab.getD c []) (putO g (some dd) (.pointer (some ⟨b, 0, none⟩))) noFr dd = .pointer (some ⟨b, 0, none⟩) := by
      rw [ovr_in (by simpa using hs)]; exact upd_same _ _ _
    simp only [List.flatMap_cons, List.flatMap_nil, List.append_nil, setC_self, h1]
  rw [e]
  exact Wd.unmid (Wd.closeAt (F := fun bb => [.blk bb (.cells v.cells T)]) hw')
end
end Mk
end
/- The reference's plan: far, children, urgent, height. -/
section
open Go Mk
namespace Go.Proofs.YteiijmclobggjaaGreat
set_option maxHeartbeats 32000000
attribute [local irreducible] Calls matL
def parL (P : Int → Int) : List Value := (List.range 32).map fun i : Nat => .int .i64 (P (i : Int))
theorem parL_len (P : Int → Int) : (parL P).length = 32 := by simp [parL]
/-- The cells of a plan. -/
def plC (u1 u2 u3 u4 u5 u6 : Value) (D : Mx) (cost : Int) (P : Int → Int) : List Value := u1 :: u2 :: u3 :: u4 :: u5 :: u6 :: (matL D ++ (.int .i64 cost :: parL P))
section
variable {u1 u2 u3 u4 u5 u6 : Value} {D : Mx} {cost : Int} {P : Int → Int}
theorem plC_h : ((plC u1 u2 u3 u4 u5 u6 D cost P).toArray.toList.drop 0).take 6 = [u1, u2, u3, u4, u5, u6] := rfl
theorem plC_d {a b : Int} (ha : nIn a) (hb : nIn b) : (plC u1 u2 u3 u4 u5 u6 D cost P).toArray[0 + 6 + a.toNat * 64 + b.toNat * 1]? = some (.int .i64 (D a b)) := by
  have h := matL_at D ha hb
  have hl := (List.getElem?_eq_some_iff.1 h).1
  rw [List.getElem?_toArray]
  unfold plC
  rw [show 0 + 6 + a.toNat * 64 + b.toNat * 1 = (a.toNat * 64 + b.toNat) + 1 + 1 + 1 + 1 + 1 + 1 by omega]
  simp only [List.getElem?_cons_succ]
  rw [List.getElem?_append_left hl]
  exact h
theorem plC_c : (plC u1 u2 u3 u4 u5 u6 D cost P).toArray[0 + 4102]? = some (.int .i64 cost) := by
  rw [List.getElem?_toArray]
  unfold plC
  rw [show (0 + 4102 : Nat) = 4096 + 1 + 1 + 1 + 1 + 1 + 1 by omega]
  simp only [List.getElem?_cons_succ]
  rw [List.getElem?_append_right (by rw [matL_len]; omega), matL_len]
  rfl
theorem plC_p {c : Int} (h : 0 ≤ c ∧ c < 32) : (plC u1 u2 u3 u4 u5 u6 D cost P).toArray[0 + 4103 + c.toNat * 1]? = some (.int .i64 (P c)) := by
  rw [List.getElem?_toArray]
  unfold plC
  rw [show 0 + 4103 + c.toNat * 1 = (4097 + c.toNat) + 1 + 1 + 1 + 1 + 1 + 1 by omega]
  simp only [List.getElem?_cons_succ]
  rw [List.getElem?_append_right (by rw [matL_len]; omega), matL_len, show 4097 + c.toNat - 4096 = c.toNat + 1 by omega, List.getElem?_cons_succ]
  unfold parL
  rw [List.getElem?_map, List.getElem?_range (by omega)]
  show some (Value.int .i64 (P (c.toNat : Int))) = _
  rw [Int.toNat_of_nonneg h.1]
end
section
variable {Γ : Gho} {H : HwT} {u1 u2 u3 u4 u5 u6 : Value} {cost : Int} {P : Int → Int} {bp : Nat} [hh : HwR Γ (.agg #[u1, u2, u3, u4, u5, u6]) H] [hB : ImB Γ bp (plC u1 u2 u3 u4 u5 u6 (dstM H) cost P).toArray 89]
include hh hB
theorem pg_far (hv : validS H = 0) {a b : Int} (ha : (findC H.Cores a).2 = true) (hb : (findC H.Cores b).2 = true) : PG Tryz.prog Γ 95 [.pointer (some ⟨bp, 0, none⟩), .int .i64 a, .int .i64 b] (.int .i64 (farI H a b)) := ⟨fun S w hw => by
  haveI p1 := pg_NodeOf (hh := hh) ha
  haveI p2 := pg_NodeOf (hh := hh) hb
  have m1 := coreN_rng hv ha
  have m2 := coreN_rng hv hb
  have n1 : nIn (coreN H a) := coreN_rng hv ha
  have n2 : nIn (coreN H b) := coreN_rng hv hb
  refine calls_of_W Tryz.func95 rfl rfl ?_
  repeat (first | refine byW ?_ | (refine byV ?_; intro w hw))
  refine W_quiet (by kernel_rfl) (by kernel_rfl) hw ?_
  repeat (first | refine Q_nil ?_ | (apply Q_plain; first | (apply Q_go; first | refine qP ?_ | refine qPg ?_) | refine qY ?_) | (apply Q_guarded; first | (apply Q_go; first | refine qPG ?_ | refine qPgG ?_) | refine qG ?_))
  refine qY (v := .agg #[u1, u2, u3, u4, u5, u6]) ?_ (hy := fun w hw => y_lpm hw rfl plC_h rfl)
  repeat (first | refine Q_nil ?_ | (apply Q_plain; first | (apply Q_go; first | refine qP ?_ | refine qPg ?_) | refine qY ?_) | (apply Q_guarded; first | (apply Q_go; first | refine qPG ?_ | refine qPgG ?_) | refine qG ?_))
  refine qY (v := .agg #[u1, u2, u3, u4, u5, u6]) ?_ (hy := fun w hw => y_lpm hw rfl plC_h rfl)
  repeat (first | refine Q_nil ?_ | (apply Q_plain; first | (apply Q_go; first | refine qP ?_ | refine qPg ?_) | refine qY ?_) | (apply Q_guarded; first | (apply Q_go; first | refine qPG ?_ | refine qPgG ?_) | refine qG ?_))
  refine qY (v := .int .i64 (dstM H (coreN H a) (coreN H b))) ?_ (hy := fun w hw => y_l1m hw rfl (plC_d n1 n2))
  repeat (first | refine Q_nil ?_ | (apply Q_plain; first | (apply Q_go; first | refine qP ?_ | refine qPg ?_) | refine qY ?_) | (apply Q_guarded; first | (apply Q_go; first | refine qPG ?_ | refine qPgG ?_) | refine qG ?_))
  intro w hw
  repeat (first | refine byW ?_ | (refine byV ?_; intro w hw))
  exact ⟨_, rfl, rfl, hw⟩⟩
omit hh in
theorem children_any {t : Int → Int} {x : Int} (hu : ∀ d ∈ kids P x, PG Tryz.prog Γ 71 [.pointer (some ⟨bp, 0, none⟩), .int .i64 x, .int .i64 d] (.int .i64 (t d))) {S : List Res} {w : World} (hw : Wd Γ S w) :
    Calls Tryz.prog 39 #[.pointer (some ⟨bp, 0, none⟩), .int .i64 x] w fun e w' => ∃ v, e = .returned v ∧ Wd Γ (.own v 3 1 (intRows (tsort t (kids P x))) :: S) w' := by
  refine calls_of_W Tryz.func39 rfl rfl ?_
  repeat (first | refine byW ?_ | (refine byV ?_; intro w hw))
  have hw : Wd Γ (.own (.slice none 0 0) 3 1 (intRows (tsort t (kidsTo P x 0))) :: S) w := by
    rw [show tsort t (kidsTo P x 0) = [] from (tsort_perm t []).eq_nil]; exact Wd.addNil hw
  refine W_loop (fun μ ρ w => ∃ (c : Nat) (q : Option Addr) (m d : Nat), μ + c = 32 ∧ Has ρ [(0, .pointer (some ⟨bp, 0, none⟩)), (1, .int .i64 x), (5, .slice q m d), (6, .int .i64 c)] ∧ Wd Γ (.own (.slice q m d) 3 1 (intRows (tsort t (kidsTo P x c))) :: S) w) 32 ⟨0, none, 0, 0, by omega, ⟨rfl, rfl, rfl, rfl, trivial⟩, hw⟩ ?_
  clear hw
  rintro μ ρ w ⟨c, q, m, d, hc, hρ, hw⟩
  have hm := own_len (i := 0) hw rfl
  simp only [intRows, List.length_map] at hm
  rw [(tsort_perm _ _).length_eq] at hm
  have hcl := kidsTo_len (P := P) (x := x) (c := c)
  rw [hρ.eq]
  clear hρ
  repeat (first | refine byW ?_ | (refine byV ?_; intro w hw))
  refine W_cond rfl (fun h => ?_) (fun h => ?_)
  · have hcn : c < 32 := by have := of_decide_eq_true h; omega
    clear h
    have hp := plC_p (u1 := u1) (u2 := u2) (u3 := u3) (u4 := u4) (u5 := u5) (u6 := u6) (D := dstM H) (cost := cost) (P := P) (c := (c : Int)) (by omega)
    repeat (first | refine byW ?_ | (refine byV ?_; intro w hw))
    refine lY (v := .int .i64 (P (c : Int))) ?_ (hy := y_l1m hw rfl hp)
    repeat (first | refine byW ?_ | (refine byV ?_; intro w hw))
    refine W_cond rfl (fun h => ?_) (fun h => ?_)
    · have hP : ¬ P (c : Int) = x := by simpa using h
      rw [← kids_out hP] at hw
      repeat (first | refine byW ?_ | (refine byV ?_; intro w hw))
      exact ⟨μ - 1, by omega, c + 1, q, m, d, by omega, ⟨rfl, rfl, rfl, rfl, trivial⟩, hw⟩
    · have hP : P (c : Int) = x := by simpa using h
      have hki := kids_in (t := t) hP
      rw [← hm] at hki
      repeat (first | refine byW ?_ | (refine byV ?_; intro w hw))
      refine lBuildSlice [[.int .i64 (c : Int)]] ?_
      intro ab w hw
      refine lApp (i := 1) (rows2 := [[.int .i64 (c : Int)]]) ?_ (Wd.own_rd (i := 0) hw rfl)
      intro v' w hw
      obtain ⟨q', m', d', rfl, hm', -, -⟩ := hw.own_shape (i := 1) rfl
      have hm' : m' = m + 1 := by
        rw [hm']; simp [intRows, (tsort_perm t (kidsTo P x c)).length_eq]; omega
      subst hm'
      have hw : Wd Γ (.own (.slice q' (m + 1) d') 3 1 (intRows (tsort t (kidsTo P x c) ++ [(c : Int)])) :: S) w := by
        have e : intRows (tsort t (kidsTo P x c) ++ [(c : Int)]) = intRows (tsort t (kidsTo P x c)) ++ [[.int .i64 (c : Int)]] := by simp [intRows]
        rw [e]; exact hw.drop
      have hsub : ∀ z ∈ tsort t (kidsTo P x c) ++ [(c : Int)], z ∈ kids P x := fun z hz => by
        rcases List.mem_append.1 hz with hz | hz
        · exact kidsTo_sub (c := c) (by omega) ((tsort_perm t _).mem_iff.1 hz)
        · rw [List.mem_singleton] at hz
          rw [hz]
          exact kidsTo_mem.2 ⟨by omega, by omega, hP⟩
      have hYl : (tsort t (kidsTo P x c) ++ [(c : Int)]).length = m + 1 := by simp [(tsort_perm t (kidsTo P x c)).length_eq]; omega
      generalize tsort t (kidsTo P x c) ++ [(c : Int)] = Y at hw hki hsub hYl
      repeat (first | refine byW ?_ | (refine byV ?_; intro w hw))
      refine W_loop (fun μ2 ρ w => ∃ (k : Nat) (Z : List Int), μ2 = k ∧ k ≤ m ∧ Z.length = m + 1 ∧ (∀ z ∈ Z, z ∈ kids P x) ∧ bub (ltT t) m Y = bub (ltT t) k Z ∧ Has ρ [(0, .pointer (some ⟨bp, 0, none⟩)), (1, .int .i64 x), (5, .slice q' (m + 1) d'), (6, .int .i64 c), (7, .int .i64 k)] ∧ Wd Γ (.own (.slice q' (m + 1) d') 3 1 (intRows Z) :: S) w) m ⟨m, Y, rfl, Nat.le_refl _, hYl, hsub, rfl, ⟨rfl, rfl, rfl, rfl, (by show Value.int .i64 (((m + 1 : Nat) : Int) - 1) = _; congr 1; omega), trivial⟩, hw⟩ ?_
      clear hw
      rintro μ2 ρ w ⟨k, Z, rfl, hk, hZ, hzs, hC, hρ, hw⟩
      rw [hρ.eq]
      clear hρ
      refine W_seq ?_
      refine W_seq ?_
      have hnr : m + 1 = (intRows Z).length := by simp [intRows]; omega
      cases μ2 with
      | zero =>
        refine W_quiet (by kernel_rfl) (by kernel_rfl) hw ?_
        iterate 3 (first | refine Q_nil ?_ | (apply Q_plain; first | (apply Q_go; first | refine qP ?_ | refine qPg ?_) | refine qY ?_) | (apply Q_guarded; first | (apply Q_go; first | refine qPG ?_ | refine qPgG ?_) | refine qG ?_))
        iterate 16 (refine qGF ?_ rfl)
        refine qY (v := .bool false) ?_ (hy := fun w hw => y_pickF rfl rfl)
        refine Q_nil ?_
        clear hw
        intro w hw
        refine W_cond rfl (fun h => by cases h) (fun _ => ?_)
        have hw : Wd Γ (.own (.slice q' (m + 1) d') 3 1 (intRows (tsort t (kidsTo P x (c + 1)))) :: S) w := by rw [← hki, hC]; exact hw
        repeat (first | refine byW ?_ | (refine byV ?_; intro w hw))
        exact ⟨μ - 1, by omega, c + 1, q', m + 1, d', by omega, ⟨rfl, rfl, rfl, rfl, trivial⟩, hw⟩
      | succ k =>
        obtain ⟨y, hy⟩ := get_lt (l := Z) (k := k + 1) (by omega)
        obtain ⟨z, hz⟩ := get_lt (l := Z) (k := k) (by omega)
        haveI i1 := hu y (hzs y (List.mem_of_getElem? hy))
        haveI i2 := hu z (hzs z (List.mem_of_getElem? hz))
        have e1 : (((k + 1 : Nat) : Int) - 1) = (k : Int) := by omega
        have hy' : Z[((k + 1 : Nat) : Int).toNat]? = some y := hy
        have hz' : Z[(((k + 1 : Nat) : Int) - 1).toNat]? = some z := by rw [e1]; exact hz
        refine W_quiet (by kernel_rfl) (by kernel_rfl) hw ?_
        iterate 1 (first | refine Q_nil ?_ | (apply Q_plain; first | (apply Q_go; first | refine qP ?_ | refine qPg ?_) | refine qY ?_) | (apply Q_guarded; first | (apply Q_go; first | refine qPG ?_ | refine qPgG ?_) | refine qG ?_))
        refine qT (b := decide ((0 : Int) < ((k + 1 : Nat) : Int))) (decide_eq_true (by omega)) ?_
        repeat (first | refine Q_nil ?_ | (apply Q_plain; first | (apply Q_go; first | refine qP ?_ | refine qPg ?_) | refine qY ?_) | (apply Q_guarded; first | (apply Q_go; first | refine qPG ?_ | refine qPgG ?_) | refine qG ?_))
        clear hw
        intro w hw
        refine W_cond rfl (fun h2 => ?_) (fun h2 => ?_)
        · have h2 : ltT t y z = true := by simpa [ltT] using h2
          rw [bub_step hy hz h2] at hC
          have hzs2 : ∀ a ∈ (Z.set (k + 1) z).set k y, a ∈ kids P x := fun a ha => by
            rcases List.mem_or_eq_of_mem_set ha with ha | ha
            · rcases List.mem_or_eq_of_mem_set ha with ha | ha
              · exact hzs a ha
              · rw [ha]; exact hzs z (List.mem_of_getElem? hz)
            · rw [ha]; exact hzs y (List.mem_of_getElem? hy)
          repeat (first | refine byW ?_ | (refine byV ?_; intro w hw))
          refine lStoreE (k := k + 1) (i := 0) ?_
          intro w hw
          have hw : Wd Γ (.own (.slice q' (m + 1) d') 3 1 ((intRows Z).set (k + 1) [.int .i64 z]) :: S) w := hw
          rw [set_rows] at hw
          have hnr : m + 1 = (intRows (Z.set (k + 1) z)).length := by simp [intRows]; omega
          repeat (first | refine byW ?_ | (refine byV ?_; intro w hw))
          refine lStoreE (k := k) (i := 0) ?_ (hx := by show Value.pointer _ = _; rw [show (((k + 1 : Nat) : Int) - 1).toNat = k by omega])
          intro w hw
          have hw : Wd Γ (.own (.slice q' (m + 1) d') 3 1 ((intRows (Z.set (k + 1) z)).set k [.int .i64 y]) :: S) w := hw
          rw [set_rows] at hw
          repeat (first | refine byW ?_ | (refine byV ?_; intro w hw))
          exact ⟨k, by omega, k, _, rfl, by omega, by simp; omega, hzs2, hC, ⟨rfl, rfl, rfl, rfl, by show Value.int .i64 (((k + 1 : Nat) : Int) - 1) = _; rw [e1], trivial⟩, hw⟩
        · have h2 : ¬ ltT t y z = true := by have : ltT t y z = false := by simpa [ltT] using h2
                                             rw [this]; simp
          rw [bub_stop hy hz h2] at hC
          have hw : Wd Γ (.own (.slice q' (m + 1) d') 3 1 (intRows (tsort t (kidsTo P x (c + 1)))) :: S) w := by rw [← hki, hC]; exact hw
          repeat (first | refine byW ?_ | (refine byV ?_; intro w hw))
          exact ⟨μ - 1, by omega, c + 1, q', m + 1, d', by omega, ⟨rfl, rfl, rfl, rfl, trivial⟩, hw⟩
  · have hcn : c = 32 := by have := of_decide_eq_false h; omega
    subst hcn
    repeat (first | refine byW ?_ | (refine byV ?_; intro w hw))
    exact ⟨_, rfl, _, rfl, hw⟩
end
end Go.Proofs.YteiijmclobggjaaGreat
end
/- The reference's plan: urgent and height, by the depth of the tree. -/
section
open Go Mk
namespace Go.Proofs.YteiijmclobggjaaGreat
set_option maxHeartbeats 32000000
attribute [local irreducible] Calls matL
/-- A plan in memory: whose children are those of ch. -/
structure PlOk (H : HwT) (cost : Int) (P : Int → Int) (ch : Int → List Int) : Prop where
  v : validS H = 0
  c : 0 ≤ cost ∧ cost ≤ 1000000
  k : ∀ x, x ≠ -1 → (kids P x).Perm (ch x)
  f : ∀ x d, d ∈ ch x → d ≠ -1 ∧ (findC H.Cores d).2 = true
section
variable {Γ : Gho} {H : HwT} {u1 u2 u3 u4 u5 u6 : Value} {cost : Int} {P : Int → Int} {bp : Nat} {ch : Int → List Int} [hhw : HwR Γ (.agg #[u1, u2, u3, u4, u5, u6]) H] [hB : ImB Γ bp (plC u1 u2 u3 u4 u5 u6 (dstM H) cost P).toArray 89]
theorem PlOk.len (p : PlOk H cost P ch) {x : Int} (hx : x ≠ -1) : (ch x).length ≤ 32 := by
  rw [← (p.k x hx).length_eq]; exact kidsTo_len
theorem PlOk.rch (p : PlOk H cost P ch) {x d : Int} (hx : x ≠ -1) (hf : (findC H.Cores x).2 = true) (h : Rch ch x d) : d ≠ -1 ∧ (findC H.Cores d).2 = true := by
  induction h with
  | refl => exact ⟨hx, hf⟩
  | step hd _ ih => exact ih (p.f _ _ hd).1 (p.f _ _ hd).2
theorem PlOk.bound (p : PlOk H cost P ch) {k : Nat} {x : Int} (hx : x ≠ -1) (hf : (findC H.Cores x).2 = true) (hd : Dep ch k x) (hk : k ≤ 4) : 0 ≤ hh (farI H) cost ch x ∧ hh (farI H) cost ch x ≤ 4252000000 := by
  have := hh_bound (far := farI H) p.c hd hk (fun a b hr hb => far_le p.v (p.rch hx hf hr).2 (p.f _ _ hb).2) (fun a hr => by have := p.len (p.rch hx hf hr).1; omega)
  omega
theorem PlOk.tlb (p : PlOk H cost P ch) {k : Nat} {x d : Int} (hf : (findC H.Cores x).2 = true) (hd : Dep ch (k + 1) x) (hk : k + 1 ≤ 4) (hm : d ∈ ch x) : 0 ≤ tl (farI H) cost ch x d ∧ tl (farI H) cost ch x d ≤ 4315000000 := by
  have h1 := p.bound (p.f _ _ hm).1 (p.f _ _ hm).2 (hd d hm) (by omega)
  have h2 := far_le p.v hf (p.f _ _ hm).2
  unfold tl
  omega
include hhw hB
theorem pg_urgent (p : PlOk H cost P ch) {x d : Int} (hx : (findC H.Cores x).2 = true) (hd : (findC H.Cores d).2 = true) (hb : 0 ≤ hh (farI H) cost ch d ∧ hh (farI H) cost ch d ≤ 4252000000)
    (ph : PG Tryz.prog Γ 96 [.pointer (some ⟨bp, 0, none⟩), .int .i64 d] (.int .i64 (hh (farI H) cost ch d))) :
    PG Tryz.prog Γ 71 [.pointer (some ⟨bp, 0, none⟩), .int .i64 x, .int .i64 d] (.int .i64 (tl (farI H) cost ch x d)) := ⟨fun S w hw => by
  haveI p1 := pg_far (hB := hB) (hh := hhw) p.v hx hd
  have hf := far_le p.v hx hd
  refine calls_of_W Tryz.func71 rfl rfl ?_
  repeat (first | refine byW ?_ | (refine byV ?_; intro w hw))
  exact ⟨_, rfl, rfl, hw⟩⟩
theorem pg_height (p : PlOk H cost P ch) : ∀ {k : Nat} {x : Int}, Dep ch k x → k ≤ 4 → x ≠ -1 → (findC H.Cores x).2 = true →
    PG Tryz.prog Γ 96 [.pointer (some ⟨bp, 0, none⟩), .int .i64 x] (.int .i64 (hh (farI H) cost ch x))
  | 0, _, hd, _, _, _ => hd.elim
  | k + 1, x, hd, hk, hx, hf => ⟨fun S w hw => by
    have hu : ∀ d ∈ ch x, PG Tryz.prog Γ 71 [.pointer (some ⟨bp, 0, none⟩), .int .i64 x, .int .i64 d] (.int .i64 (tl (farI H) cost ch x d)) := fun d hm =>
      pg_urgent p hf (p.f _ _ hm).2 (p.bound (p.f _ _ hm).1 (p.f _ _ hm).2 (hd d hm) (by omega)) (pg_height p (hd d hm) (by omega) (p.f _ _ hm).1 (p.f _ _ hm).2)
    have hpk := p.k x hx
    have hlen := p.len hx
    have hc := p.c
    have htl := fun d hm => p.tlb (x := x) (d := d) hf hd hk hm
    refine calls_of_W Tryz.func96 rfl rfl ?_
    repeat (first | refine byW ?_ | (refine byV ?_; intro w hw))
    refine lCall ((children_any (t := tl (farI H) cost ch x) (x := x) (fun d hm => hu d (hpk.mem_iff.1 hm)) hw).mono fun e w hq => ?_)
    clear hw
    obtain ⟨v, rfl, hw⟩ := hq
    refine ⟨_, rfl, ?_⟩
    rw [tsort_of_perm hpk] at hw
    have hLm : ∀ d ∈ tsort (tl (farI H) cost ch x) (ch x), d ∈ ch x := fun d hm => (tsort_perm _ _).mem_iff.1 hm
    have hLl : (tsort (tl (farI H) cost ch x) (ch x)).length ≤ 32 := by rw [(tsort_perm _ _).length_eq]; exact hlen
    rw [hh_eq hd hk]
    unfold srt
    generalize tsort (tl (farI H) cost ch x) (ch x) = L at *
    obtain ⟨a, n, c, rfl, hn, hnc, hcc⟩ := hw.own_shape (i := 0) rfl
    simp only [intRows, List.length_map] at hn
    generalize tl (farI H) cost ch x = t at *
    repeat (first | refine byW ?_ | (refine byV ?_; intro w hw))
    refine W_loop (fun μ ρ w => ∃ (i : Nat) (m : Int), μ + i = n ∧ 0 ≤ m ∧ m ≤ 100000000000 ∧ hmostF cost t 0 0 L = hmostF cost t i m (L.drop i) ∧ Has ρ [(0, .pointer (some ⟨bp, 0, none⟩)), (1, .int .i64 x), (5, .int .i64 m), (6, .slice a n c), (7, .int .i64 i)] ∧ Wd Γ (.own (.slice a n c) 3 1 (intRows L) :: S) w) n ⟨0, 0, by omega, by omega, by omega, rfl, ⟨rfl, rfl, rfl, rfl, rfl, trivial⟩, hw⟩ ?_
    clear hw
    rintro μ ρ w ⟨i, m, hi, hm0, hm1, hF, hρ, hw⟩
    rw [hρ.eq]
    clear hρ
    repeat (first | refine byW ?_ | (refine byV ?_; intro w hw))
    refine W_cond rfl (fun h => ?_) (fun h => ?_)
    · have hin : i < n := by have := of_decide_eq_true h; omega
      clear h
      obtain ⟨y, hy⟩ := get_lt (l := L) (k := i) (by omega)
      have hym := hLm y (List.mem_of_getElem? hy)
      haveI := hu y hym
      have hty := htl y hym
      have hmul : 0 ≤ ((i : Int) + 1) * cost ∧ ((i : Int) + 1) * cost ≤ 32000000 := ⟨Int.mul_nonneg (by omega) hc.1, Int.le_trans (Int.mul_le_mul (b := cost) (d := 1000000) (show (i : Int) + 1 ≤ 32 by omega) hc.2 hc.1 (by omega)) (by omega)⟩
      have hF : hmostF cost t 0 0 L = hmostF cost t (i + 1) (max m (((i : Int) + 1) * cost + t y)) (L.drop (i + 1)) := by
        obtain ⟨q1, q2⟩ := List.getElem?_eq_some_iff.1 hy
        rw [hF, List.drop_eq_getElem_cons q1, q2]; rfl
      have hm2 : 0 ≤ max m (((i : Int) + 1) * cost + t y) ∧ max m (((i : Int) + 1) * cost + t y) ≤ 100000000000 := by omega
      rw [max_if] at hF hm2
      repeat (first | refine byW ?_ | (refine byV ?_; intro w hw))
      refine W_quiet (by kernel_rfl) (by kernel_rfl) hw ?_
      repeat (first | refine Q_nil ?_ | (apply Q_plain; first | (apply Q_go; first | refine qP ?_ | refine qPg ?_) | refine qY ?_) | (apply Q_guarded; first | (apply Q_go; first | refine qPG ?_ | refine qPgG ?_) | refine qG ?_))
      refine qY (v := .int .i64 cost) ?_ (hy := fun w hw => y_l1m hw rfl plC_c)
      repeat (first | refine Q_nil ?_ | (apply Q_plain; first | (apply Q_go; first | refine qP ?_ | refine qPg ?_) | refine qY ?_) | (apply Q_guarded; first | (apply Q_go; first | refine qPG ?_ | refine qPgG ?_) | refine qG ?_))
      intro w hw
      repeat (first | refine byW ?_ | (refine byV ?_; intro w hw))
      exact ⟨μ - 1, by omega, i + 1, _, by omega, hm2.1, hm2.2, hF, ⟨rfl, rfl, rfl, rfl, rfl, trivial⟩, hw⟩
    · have hin : ¬ i < n := by have := of_decide_eq_false h; omega
      rw [List.drop_eq_nil_of_le (by omega)] at hF
      have hF : m = hmostF cost t 0 0 L := hF.symm
      repeat (first | refine byW ?_ | (refine byV ?_; intro w hw))
      exact ⟨_, rfl, by rw [← hF]; rfl, hw.drop⟩⟩
end
end Go.Proofs.YteiijmclobggjaaGreat
end
/- The reference's forwarder. -/
section
open Go Mk
namespace Go.Proofs.YteiijmclobggjaaGreat
set_option maxHeartbeats 32000000
attribute [local irreducible] Calls matL
section
variable {Γ : Gho} {H : HwT} {cost : Int} {P : Int → Int} {bp : Nat} {D : Mx}
theorem plC_s {u1 u2 u3 u4 u5 u6 : Value} : (plC u1 u2 u3 u4 u5 u6 D cost P).toArray[0 + 0 + 1]? = some u2 := rfl
theorem core_fact {x : Int} (hx : (findC H.Cores x).2 = true) : ∃ (k : Nat) (y : CoreT), coreAt H.Cores x = k ∧ H.Cores[k]? = some y ∧ spdC H x = y.Speed := by
  rcases coreIx_cases H.Cores x with ⟨-, h2, -⟩ | ⟨k, y, hk, hy, hyid, hf⟩
  · rw [h2] at hx; cases hx
  · exact ⟨k, y, hk, hy, by unfold spdC; rw [hf]⟩
theorem fwd_any {u : Value} [hhw : HwR Γ u H] (hv : validS H = 0) {vm : Value} {ms : List Int} [hr : SlC Γ vm 1 (intRows ms)] [hsh : ShortL ms] {r m : Int} (hfr : (findC H.Cores r).2 = true) (hfm : ∀ a ∈ ms, (findC H.Cores a).2 = true) (hm : m ∈ ms) {u1 u2 u3 u4 u5 u6 : Value} (hu : u = .agg #[u1, u2, u3, u4, u5, u6])
    {S : List Res} {w : World} {j : Nat} (hj : S[j]? = some (.blk bp (.cells (plC u1 u2 u3 u4 u5 u6 D cost P).toArray 89))) (hw : Wd Γ S w) :
    Calls Tryz.prog 38 #[.pointer (some ⟨bp, 0, none⟩), .int .i64 r, vm, .int .i64 m] w fun e w' => e = .returned (.int .i64 (fwdS H r ms m)) ∧ Wd Γ S w' := by
  have hhw' := hhw
  obtain ⟨a1, n1, c1, a2, n2, c2, a3, n3, c3, a4, n4, c4, a5, n5, c5, cs, hu', -, -, -, r1, -⟩ := hhw.h
  rw [hu'] at hu
  cases hu
  subst hu'
  obtain ⟨hn1, hm1, hx1⟩ := rep_facts r1
  simp only [List.length_map] at hn1
  have hrs := hr.h
  obtain ⟨am, nm, cm, rfl, hnm, hnmc, hcm⟩ := hr.h.shape
  simp only [intRows, List.length_map] at hnm
  have hms := hsh.h
  haveI pm := pg_NodeOf (hh := hhw') (hfm m hm)
  haveI pr := pg_NodeOf (hh := hhw') hfr
  refine calls_of_W Tryz.func38 rfl rfl ?_
  repeat (first | refine byW ?_ | (refine byV ?_; intro w hw))
  refine lY (v := .agg #[.string H.Name, .slice a1 n1 c1, .slice a2 n2 c2, .slice a3 n3 c3, .slice a4 n4 c4, .slice a5 n5 c5]) ?_ (hy := y_lpb hw rfl hj plC_h rfl)
  repeat (first | refine byW ?_ | (refine byV ?_; intro w hw))
  refine lY (v := .agg #[.string H.Name, .slice a1 n1 c1, .slice a2 n2 c2, .slice a3 n3 c3, .slice a4 n4 c4, .slice a5 n5 c5]) ?_ (hy := y_lpb hw rfl hj plC_h rfl)
  repeat (first | refine byW ?_ | (refine byV ?_; intro w hw))
  unfold fwdS
  refine W_cond rfl (fun h => ?_) (fun h => ?_)
  · have h : coreN H m = coreN H r := of_decide_eq_true h
    rw [if_pos h]
    repeat (first | refine byW ?_ | (refine byV ?_; intro w hw))
    exact ⟨_, rfl, rfl, hw⟩
  have h : ¬ coreN H m = coreN H r := of_decide_eq_false h
  rw [if_neg h]
  clear h
  have hbest : bestF (spdC H) m (grpL H ms (coreN H m)) = fwdL H (grpL H ms (coreN H m)) := best_fwd (grpL_mem.2 ⟨hm, rfl⟩)
  rw [← hbest]
  repeat (first | refine byW ?_ | (refine byV ?_; intro w hw))
  refine W_loop (fun μ ρ w => ∃ (i : Nat) (b : Int), μ + i = nm ∧ b ∈ ms ∧ bestF (spdC H) m (grpL H ms (coreN H m)) = bestF (spdC H) b (grpL H (ms.drop i) (coreN H m)) ∧ Has ρ [(0, .pointer (some ⟨bp, 0, none⟩)), (1, .int .i64 r), (2, .slice am nm cm), (3, .int .i64 m), (9, .int .i64 (coreN H m)), (10, .int .i64 b), (11, .int .i64 i)] ∧ Wd Γ S w) nm ⟨0, m, by omega, hm, rfl, ⟨rfl, rfl, rfl, rfl, rfl, rfl, rfl, trivial⟩, hw⟩ ?_
  clear hw
  rintro μ ρ w ⟨i, b, hi, hb, hF, hρ, hw⟩
  rw [hρ.eq]
  clear hρ
  repeat (first | refine byW ?_ | (refine byV ?_; intro w hw))
  refine W_cond rfl (fun h => ?_) (fun h => ?_)
  · have hin : i < nm := by have := of_decide_eq_true h; omega
    clear h
    obtain ⟨y, hy⟩ := get_lt (l := ms) (k := i) (by omega)
    have hym := List.mem_of_getElem? hy
    haveI py := pg_NodeOf (hh := hhw') (hfm y hym)
    obtain ⟨q1, q2⟩ := List.getElem?_eq_some_iff.1 hy
    rw [List.drop_eq_getElem_cons q1, q2] at hF
    repeat (first | refine byW ?_ | (refine byV ?_; intro w hw))
    refine lY (v := .agg #[.string H.Name, .slice a1 n1 c1, .slice a2 n2 c2, .slice a3 n3 c3, .slice a4 n4 c4, .slice a5 n5 c5]) ?_ (hy := y_lpb hw rfl hj plC_h rfl)
    repeat (first | refine byW ?_ | (refine byV ?_; intro w hw))
    refine W_cond rfl (fun h => ?_) (fun h => ?_)
    · have h : ¬ coreN H y = coreN H m := by simpa using h
      rw [show grpL H (y :: ms.drop (i + 1)) (coreN H m) = grpL H (ms.drop (i + 1)) (coreN H m) by unfold grpL; rw [List.filter_cons, if_neg (by simpa using h)]] at hF
      repeat (first | refine byW ?_ | (refine byV ?_; intro w hw))
      exact ⟨μ - 1, by omega, i + 1, b, by omega, hb, hF, ⟨rfl, rfl, rfl, rfl, rfl, rfl, rfl, trivial⟩, hw⟩
    · have h : coreN H y = coreN H m := by simpa using h
      rw [show grpL H (y :: ms.drop (i + 1)) (coreN H m) = y :: grpL H (ms.drop (i + 1)) (coreN H m) by unfold grpL; rw [List.filter_cons, if_pos (by simpa using h)]] at hF
      obtain ⟨k1, x1, e1, g1, s1⟩ := core_fact (hfm y hym)
      obtain ⟨k2, x2, e2, g2, s2⟩ := core_fact (hfm b hb)
      have l1 := (List.getElem?_eq_some_iff.1 g1).1
      have l2 := (List.getElem?_eq_some_iff.1 g2).1
      haveI p1 : PG Tryz.prog Γ 36 [.agg #[.string H.Name, .slice a1 n1 c1, .slice a2 n2 c2, .slice a3 n3 c3, .slice a4 n4 c4, .slice a5 n5 c5], .int .i64 y] (.int .i64 (k1 : Nat)) := by
        have := pg_CoreAt (hh := hhw') (id := y)
        rwa [e1] at this
      haveI p2 : PG Tryz.prog Γ 36 [.agg #[.string H.Name, .slice a1 n1 c1, .slice a2 n2 c2, .slice a3 n3 c3, .slice a4 n4 c4, .slice a5 n5 c5], .int .i64 b] (.int .i64 (k2 : Nat)) := by
        have := pg_CoreAt (hh := hhw') (id := b)
        rwa [e2] at this
      clear h
      have hF : bestF (spdC H) m (grpL H ms (coreN H m)) = bestF (spdC H) (if betT (spdC H) y b = true then y else b) (grpL H (ms.drop (i + 1)) (coreN H m)) := hF
      have hbet : betT (spdC H) y b = decide (x2.Speed < x1.Speed ∨ (x1.Speed = x2.Speed ∧ y < b)) := by unfold betT; rw [s1, s2]
      rw [hbet] at hF
      repeat (first | refine byW ?_ | (refine byV ?_; intro w hw))
      refine W_quiet (by kernel_rfl) (by kernel_rfl) hw ?_
      repeat (first | refine Q_nil ?_ | (apply Q_plain; first | (apply Q_go; first | refine qP ?_ | refine qPg ?_) | refine qY ?_) | (apply Q_guarded; first | (apply Q_go; first | refine qPG ?_ | refine qPgG ?_) | refine qG ?_))
      refine qY (v := .slice a1 n1 c1) ?_ (hy := fun w hw => y_l1b hw rfl hj plC_s)
      repeat (first | refine Q_nil ?_ | (apply Q_plain; first | (apply Q_go; first | refine qP ?_ | refine qPg ?_) | refine qY ?_) | (apply Q_guarded; first | (apply Q_go; first | refine qPG ?_ | refine qPgG ?_) | refine qG ?_))
      refine qY (v := .agg #[.string H.Name, .slice a1 n1 c1, .slice a2 n2 c2, .slice a3 n3 c3, .slice a4 n4 c4, .slice a5 n5 c5]) ?_ (hy := fun w hw => y_lpb hw rfl hj plC_h rfl)
      repeat (first | refine Q_nil ?_ | (apply Q_plain; first | (apply Q_go; first | refine qP ?_ | refine qPg ?_) | refine qY ?_) | (apply Q_guarded; first | (apply Q_go; first | refine qPG ?_ | refine qPgG ?_) | refine qG ?_))
      intro w hw
      repeat (first | refine byW ?_ | (refine byV ?_; intro w hw))
      refine W_quiet (by kernel_rfl) (by kernel_rfl) hw ?_
      repeat (first | refine Q_nil ?_ | (apply Q_plain; first | (apply Q_go; first | refine qP ?_ | refine qPg ?_) | refine qY ?_) | (apply Q_guarded; first | (apply Q_go; first | refine qPG ?_ | refine qPgG ?_) | refine qG ?_))
      refine qY (v := .slice a1 n1 c1) ?_ (hy := fun w hw => y_l1b hw rfl hj plC_s)
      repeat (first | refine Q_nil ?_ | (apply Q_plain; first | (apply Q_go; first | refine qP ?_ | refine qPg ?_) | refine qY ?_) | (apply Q_guarded; first | (apply Q_go; first | refine qPG ?_ | refine qPgG ?_) | refine qG ?_))
      refine qY (v := .agg #[.string H.Name, .slice a1 n1 c1, .slice a2 n2 c2, .slice a3 n3 c3, .slice a4 n4 c4, .slice a5 n5 c5]) ?_ (hy := fun w hw => y_lpb hw rfl hj plC_h rfl)
      repeat (first | refine Q_nil ?_ | (apply Q_plain; first | (apply Q_go; first | refine qP ?_ | refine qPg ?_) | refine qY ?_) | (apply Q_guarded; first | (apply Q_go; first | refine qPG ?_ | refine qPgG ?_) | refine qG ?_))
      intro w hw
      repeat (first | refine byW ?_ | (refine byV ?_; intro w hw))
      refine W_cond rfl (fun h => ?_) (fun h => ?_)
      · have h : x2.Speed < x1.Speed ∨ (x1.Speed = x2.Speed ∧ y < b) := by simpa using h
        rw [if_pos (decide_eq_true h)] at hF
        repeat (first | refine byW ?_ | (refine byV ?_; intro w hw))
        exact ⟨μ - 1, by omega, i + 1, y, by omega, hym, hF, ⟨rfl, rfl, rfl, rfl, rfl, rfl, rfl, trivial⟩, hw⟩
      · have h : ¬ (x2.Speed < x1.Speed ∨ (x1.Speed = x2.Speed ∧ y < b)) := by simpa using h
        rw [if_neg (by simpa using h)] at hF
        repeat (first | refine byW ?_ | (refine byV ?_; intro w hw))
        exact ⟨μ - 1, by omega, i + 1, b, by omega, hb, hF, ⟨rfl, rfl, rfl, rfl, rfl, rfl, rfl, trivial⟩, hw⟩
  · have hin : ¬ i < nm := by have := of_decide_eq_false h; omega
    rw [List.drop_eq_nil_of_le (by omega)] at hF
    have hF : bestF (spdC H) m (grpL H ms (coreN H m)) = b := hF
    rw [hF]
    clear h
    repeat (first | refine byW ?_ | (refine byV ?_; intro w hw))
    refine W_cond rfl (fun h => ?_) (fun h => ?_)
    · have h : b = m := of_decide_eq_true h
      rw [if_pos h]
      repeat (first | refine byW ?_ | (refine byV ?_; intro w hw))
      exact ⟨_, rfl, rfl, hw⟩
    · have h : ¬ b = m := of_decide_eq_false h
      rw [if_neg h]
      repeat (first | refine byW ?_ | (refine byV ?_; intro w hw))
      exact ⟨_, rfl, rfl, hw⟩
end
end Go.Proofs.YteiijmclobggjaaGreat
end
/- A plan in memory is built. -/
section
open Go Mk
namespace Go.Proofs.YteiijmclobggjaaGreat
set_option maxHeartbeats 32000000
attribute [local irreducible] matL
def plZ : List Value := [.string ⟨#[]⟩, .slice none 0 0, .slice none 0 0, .slice none 0 0, .slice none 0 0, .slice none 0 0] ++ (List.replicate 4096 (.int .i64 0) ++ ([.int .i64 0] ++ List.replicate 32 (.int .i64 0)))
set_option maxRecDepth 100000 in
instance tb_plan : TB Tryz.prog 89 [(0, 6), (6, 4096), (4102, 1), (4103, 32)] plZ := ⟨by kernel_rfl, by kernel_rfl⟩
theorem setL_app : ∀ (V B A C : List Value), V.length = B.length → setL (A ++ (B ++ C)) A.length V = A ++ (V ++ C)
  | [], B, A, C, h => by
    have : B = [] := List.length_eq_zero_iff.1 h.symm
    subst this; rfl
  | v :: V, [], A, C, h => by cases h
  | v :: V, b :: B, A, C, h => by
    unfold setL
    rw [List.set_append_right _ _ (Nat.le_refl _), Nat.sub_self]
    show setL (A ++ (v :: (B ++ C))) (A.length + 1) V = _
    have := setL_app V B (A ++ [v]) C (by simpa using h)
    rw [List.length_append, List.length_singleton] at this
    rw [show A ++ v :: (B ++ C) = A ++ [v] ++ (B ++ C) by simp, this]
    simp
theorem fill_step {pl : Nat → Option (Nat × Nat)} {i off sz : Nat} {v : Value} {A B C : List Value} {rest : List (Nat × Value)} {out : List Value} (hp : pl i = some (off, sz)) (hv : v.cells.toList.length = sz) (ha : A.length = off) (hb : B.length = sz) (h : fillL pl (A ++ (v.cells.toList ++ C)) rest = some out) : fillL pl (A ++ (B ++ C)) ((i, v) :: rest) = some out := by
  unfold fillL
  rw [hp]
  have h1 : Nat.beq v.cells.toList.length sz = true := by rw [hv]; exact Nat.beq_refl _
  have h2 : Nat.ble (off + sz) (A ++ (B ++ C)).length = true := Nat.ble_eq_true_of_le (by simp only [List.length_append]; omega)
  simp only [h1, h2, Bool.and_true, cond_true]
  subst ha
  rw [setL_app _ _ _ _ (by rw [hv, hb])]
  exact h
theorem parL_zero : List.replicate 32 (.int .i64 0) = parL fun _ => 0 := by rfl
theorem fill_plan {u1 u2 u3 u4 u5 u6 : Value} {D : Mx} {cost : Int} : fillL (([(0, 6), (6, 4096), (4102, 1), (4103, 32)] : List (Nat × Nat))[·]?) plZ [(0, .agg #[u1, u2, u3, u4, u5, u6]), (1, .agg (matL D).toArray), (2, .int .i64 cost)] = some (plC u1 u2 u3 u4 u5 u6 D cost fun _ => 0) := by
  unfold plZ
  have hZ : (List.replicate 4096 (Value.int .i64 0)).length = 4096 := by rw [List.length_replicate]
  generalize List.replicate 4096 (Value.int .i64 0) = Z at hZ ⊢
  rw [← List.nil_append ([Value.string ⟨#[]⟩, .slice none 0 0, .slice none 0 0, .slice none 0 0, .slice none 0 0, .slice none 0 0] ++ _)]
  refine fill_step (A := []) (B := [Value.string ⟨#[]⟩, .slice none 0 0, .slice none 0 0, .slice none 0 0, .slice none 0 0, .slice none 0 0]) (off := 0) (sz := 6) rfl rfl rfl rfl ?_
  rw [List.nil_append]
  refine fill_step (A := [u1, u2, u3, u4, u5, u6]) (B := Z) (off := 6) (sz := 4096) rfl (by simp [Value.cells, matL_len]) rfl hZ ?_
  rw [← List.append_assoc]
  refine fill_step (A := [u1, u2, u3, u4, u5, u6] ++ (Value.agg (matL D).toArray).cells.toList) (B := [.int .i64 0]) (off := 4102) (sz := 1) rfl rfl (by simp [Value.cells, matL_len]) rfl ?_
  rw [parL_zero]
  simp [fillL, Value.cells, plC]
/-- The plan's parents, set one by one. -/
theorem plC_put {u1 u2 u3 u4 u5 u6 : Value} {D : Mx} {cost : Int} {P : Int → Int} {c v : Int} (h : 0 ≤ c ∧ c < 32) : putCells (plC u1 u2 u3 u4 u5 u6 D cost P).toArray (0 + 4103 + c.toNat * 1) [.int .i64 v] = (plC u1 u2 u3 u4 u5 u6 D cost (updI P c v)).toArray := by
  have hl : (plC u1 u2 u3 u4 u5 u6 D cost P).length = 4135 := by simp [plC, matL_len, parL_len]
  have hs : (plC u1 u2 u3 u4 u5 u6 D cost P).set (4103 + c.toNat) (.int .i64 v) = plC u1 u2 u3 u4 u5 u6 D cost (updI P c v) := by
    unfold plC
    rw [show 4103 + c.toNat = (4097 + c.toNat) + 1 + 1 + 1 + 1 + 1 + 1 by omega]
    simp only [List.set_cons_succ]
    rw [List.set_append_right _ _ (by rw [matL_len]; omega), matL_len, show 4097 + c.toNat - 4096 = c.toNat + 1 by omega, List.set_cons_succ]
    congr 8
    refine List.ext_getElem? fun n => ?_
    rw [List.getElem?_set]
    unfold parL updI
    by_cases hn : n < 32
    · rw [List.getElem?_map, List.getElem?_map, List.getElem?_range hn]
      by_cases e : c.toNat = n
      · rw [if_pos e, if_pos (by simp; omega)]
        show _ = some (Value.int .i64 (if c = (n : Int) then v else P n))
        rw [if_pos (by omega)]
      · rw [if_neg e]
        show some (Value.int .i64 (P n)) = some (Value.int .i64 (if c = (n : Int) then v else P n))
        rw [if_neg (by omega)]
    · rw [if_neg (by omega)]
      rw [List.getElem?_eq_none (by simp; omega), List.getElem?_eq_none (by simp; omega)]
  rw [← hs]
  unfold putCells
  rw [show 0 + 4103 + c.toNat * 1 = 4103 + c.toNat by omega, List.set_eq_take_append_cons_drop, if_pos (by rw [hl]; omega)]
  simp
end Go.Proofs.YteiijmclobggjaaGreat
end
