/- Plain law: the name server and its reference go together. -/
import Derived.Test.YtekdbdhkpolooaaN23
open Go Mk
namespace Go.Proofs.Ytekdbdhkpolooaa
set_option maxHeartbeats 400000
attribute [local irreducible] Calls

theorem strict_eq : ∀ {xs ys : List Service}, xs.Pairwise (fun a b => bLt a.Name b.Name = true) → ys.Pairwise (fun a b => bLt a.Name b.Name = true) → xs.Perm ys → xs = ys
  | [], _, _, _, h => (List.nil_perm.1 h).symm
  | x :: xs, [], _, _, h => absurd h.length_eq (by simp)
  | x :: xs, y :: ys, hx, hy, h => by
    have hxy : x = y := by
      have h1 : x ∈ y :: ys := h.subset (List.mem_cons_self ..)
      have h2 : y ∈ x :: xs := h.symm.subset (List.mem_cons_self ..)
      rcases List.mem_cons.1 h1 with e | e
      · exact e
      · rcases List.mem_cons.1 h2 with e2 | e2
        · exact e2.symm
        · have a1 := (List.pairwise_cons.1 hy).1 x e
          have a2 := (List.pairwise_cons.1 hx).1 y e2
          rw [bLt_asymm a1] at a2; cases a2
    subst hxy
    rw [strict_eq (List.pairwise_cons.1 hx).2 (List.pairwise_cons.1 hy).2 (List.Perm.cons_inv h)]
section
variable {m : List (ByteArray × Service)} {ws : List Waiter} {ss ys : List Service}
theorem sorted_eq (h : Inv m ws) (h1 : Sorted m ys) (h2 : Sorted m ss) : ys = ss := strict_eq (sorted_strict h h1) (sorted_strict h h2) (h1.perm.trans h2.perm.symm)
theorem sorted_len (h2 : Sorted m ss) : ss.length = m.length := by simpa using h2.perm.length_eq
theorem name_uniq (h : Inv m ws) (h2 : Sorted m ss) {u v : Service} (hu : u ∈ ss) (hv : v ∈ ss) (he : u.Name = v.Name) : u = v := by
  obtain ⟨i, hi, rfl⟩ := List.getElem_of_mem hu
  obtain ⟨j, hj, rfl⟩ := List.getElem_of_mem hv
  have hp := List.pairwise_iff_getElem.1 (sorted_strict h h2)
  rcases Nat.lt_trichotomy i j with hlt | e | hlt
  · have := hp i j hi hj hlt; rw [he, bLt_irrefl] at this; cases this
  · subst e; rfl
  · have := hp j i hj hi hlt; rw [he, bLt_irrefl] at this; cases this
theorem rel_get (h : Inv m ws) (h2 : Sorted m ss) (name : ByteArray) : rGet ss name = aGet m name := by
  unfold rGet
  cases hf : ss.findIdx? (isN name) with
  | none =>
    rw [List.findIdx?_eq_none_iff] at hf
    symm
    show aGet m name = none
    rw [aGet_none]
    intro hm
    obtain ⟨s, hs, he⟩ := List.mem_map.1 ((sorted_nd h h2).mem_iff.2 hm)
    have := hf s hs
    simp [isN, he] at this
  | some k =>
    obtain ⟨hk, hp, -⟩ := List.findIdx?_eq_some_iff_getElem.1 hf
    have hn : ss[k].Name = name := by simpa [isN] using hp
    show ss[k]? = _
    rw [List.getElem?_eq_getElem hk]
    have hm : ss[k] ∈ m.map (·.2) := h2.perm.subset (List.getElem_mem hk)
    cases hg : aGet m name with
    | none =>
      obtain ⟨p, hpm, hpe⟩ := List.mem_map.1 hm
      exact absurd (List.mem_map.2 ⟨p, hpm, by rw [h.key p hpm, hpe, hn]⟩) (aGet_none.1 hg)
    | some v =>
      have hv := aGet_mem hg
      have hvs : v ∈ ss := h2.perm.symm.subset (List.mem_map.2 ⟨_, hv, rfl⟩)
      rw [name_uniq h h2 (List.getElem_mem hk) hvs (hn.trans (h.key _ hv))]
theorem get_some {name : ByteArray} : (rGet ss name).isSome = (ss.findIdx? (isN name)).isSome := by
  unfold rGet
  cases hf : ss.findIdx? (isN name) with
  | none => rfl
  | some k => simp [List.getElem?_eq_getElem (findIdx_lt hf)]
theorem rel_regErr (h : Inv m ws) (h2 : Sorted m ss) (v : Service) : rgErr ss v = regErr m v := by
  unfold rgErr regErr
  rw [← get_some, rel_get h h2]
  have h3 := sorted_len h2
  have h4 := h.ml
  by_cases e : m.length = 64
  · rw [if_pos e, if_pos (show 64 ≤ ss.length by omega)]
  · rw [if_neg e, if_neg (show ¬ 64 ≤ ss.length by omega)]
theorem rel_reg (h : Inv m ws) (h2 : Sorted m ss) {v : Service} (hE : regErr m v = 0) {ss' : List Service} (hp : ss'.Perm (ss ++ [v])) (ha : Asc ss') : Sorted (regM m v) ss' := by
  have hg : aGet m v.Name = none := by
    unfold regErr at hE
    cases hg : aGet m v.Name with
    | none => rfl
    | some u =>
      rw [hg] at hE
      split at hE
      · simp at hE
      split at hE
      · simp at hE
      simp at hE
  rw [show regM m v = m ++ [(v.Name, v)] from by unfold regM; rw [if_pos hE, aSet_new hg]]
  refine ⟨?_, ha⟩
  rw [List.map_append]
  exact hp.trans (h2.perm.append_right _)
theorem aDel_filter {a : ByteArray} : ∀ {m : List (ByteArray × Service)}, (m.map (·.1)).Nodup → aDel m a = m.filter fun p => !decide (p.1 = a) := fun {m} hnd => by
  unfold aDel aIx
  cases hf : m.findIdx? (fun p => decide (p.1 = a)) with
  | none =>
    rw [List.findIdx?_eq_none_iff] at hf
    exact (List.filter_eq_self.2 fun p hp => by rw [hf p hp]; rfl).symm
  | some i =>
    rw [List.Nodup, List.pairwise_map] at hnd
    exact erase_filter (p := fun p => decide (p.1 = a)) (hnd.imp fun {x y} hxy hh => hxy (by simp at hh; rw [hh.1, hh.2])) hf
theorem delAll_filter : ∀ {l : List Service} {m : List (ByteArray × Service)}, (m.map (·.1)).Nodup → delAll m l = m.filter fun p => !l.any fun s => decide (p.1 = s.Name)
  | [], m, _ => (List.filter_eq_self.2 fun p hp => by simp).symm
  | x :: l, m, hnd => by
    show delAll (aDel m x.Name) l = _
    rw [delAll_filter (hnd.sublist (aDel_sub.map _)), aDel_filter hnd, List.filter_filter]
    refine List.filter_congr fun p hp => ?_
    rw [List.any_cons, Bool.not_or, Bool.and_comm]
theorem sorted_filter (h : Inv m ws) (h2 : Sorted m ss) (q : ByteArray → Bool) : Sorted (m.filter fun p => q p.1) (ss.filter fun s => q s.Name) := by
  refine ⟨?_, h2.asc.sublist List.filter_sublist⟩
  have h3 := h2.perm.filter (fun s => q s.Name)
  rw [List.filter_map] at h3
  refine h3.trans (List.Perm.of_eq ?_)
  congr 1
  exact List.filter_congr fun p hp => by simp [h.key p hp]
theorem rel_unErr (h : Inv m ws) (h2 : Sorted m ss) (name : ByteArray) (core : Int) : ruErr ss name core = unErr m name core := by
  unfold ruErr unErr; rw [rel_get h h2]; rfl
theorem rel_un (h : Inv m ws) (h2 : Sorted m ss) (name : ByteArray) (core : Int) : Sorted (unM m name core) (ruS ss name core) := by
  unfold unM ruS
  rw [rel_unErr h h2]
  by_cases hE : unErr m name core = 0
  · rw [if_pos hE, if_pos hE]
    cases hf : ss.findIdx? (isN name) with
    | none =>
      have hg : aGet m name = none := by rw [← rel_get h h2]; unfold rGet; rw [hf]; rfl
      unfold unErr at hE; rw [hg] at hE; simp at hE
    | some k =>
      show Sorted _ (ss.eraseIdx k)
      rw [aDel_filter h.nd, erase_filter (p := isN name) ((sorted_strict h h2).imp fun {a b} hab hh => ?_) hf]
      · exact sorted_filter h h2 (fun n => !decide (n = name))
      · simp [isN] at hh; rw [hh.1, hh.2, bLt_irrefl] at hab; cases hab
  · rw [if_neg hE, if_neg hE]; exact h2
theorem rel_lkErr (h : Inv m ws) (h2 : Sorted m ss) (name : ByteArray) : rLkErr ss name = lkErr m name := by
  unfold rLkErr lkErr; rw [rel_get h h2]
theorem rel_awErr (h : Inv m ws) (h2 : Sorted m ss) (x : Waiter) : rawErr ss ws x = awErr m ws x := by
  unfold rawErr awErr
  rw [rel_get h h2]
  have h3 := h.wl
  by_cases e : ws.length = 64
  · simp [e]
  · have : ¬ 64 ≤ ws.length := by omega
    simp [e, this]
theorem rel_aw (h : Inv m ws) (h2 : Sorted m ss) (x : Waiter) : rawW ss ws x = awW m ws x ∧ rawF ss ws x = awF m ws x ∧ rawS ss ws x = awS m ws x := by
  unfold rawW rawF rawS awW awF awS
  rw [rel_awErr h h2, rel_get h h2]
  exact ⟨rfl, rfl, rfl⟩
theorem rel_dep (h : Inv m ws) (h2 : Sorted m ss) (core : Int) : Sorted (delAll m (ss.filter (sCore core))) (ss.filter fun s => !sCore core s) := by
  rw [delAll_filter h.nd]
  have h3 := sorted_filter h h2 (fun n => !(ss.filter (sCore core)).any fun s => decide (n = s.Name))
  rw [show (ss.filter fun s => !sCore core s) = ss.filter fun u => !(ss.filter (sCore core)).any fun s => decide (u.Name = s.Name) from List.filter_congr fun s hs => ?_]
  · exact h3
  · congr 1
    cases hc : sCore core s with
    | true => exact (List.any_eq_true.2 ⟨s, List.mem_filter.2 ⟨hs, hc⟩, by simp⟩).symm
    | false =>
      symm
      rw [List.any_eq_false]
      intro u hu he
      have hu := List.mem_filter.1 hu
      rw [name_uniq h h2 hu.1 hs (of_decide_eq_true he).symm, hc] at hu
      exact absurd hu.2 (by simp)
end
def Val (m : List (ByteArray × Service)) : Prop := ∀ p ∈ m, nameS p.2.Name = true ∧ badNums p.2 = false
theorem val_nil : Val [] := fun _ h => by simp at h
theorem val_sub {m m' : List (ByteArray × Service)} (h : Val m) (hs : m'.Sublist m) : Val m' := fun p hp => h p (hs.subset hp)
theorem regErr_ok {m : List (ByteArray × Service)} {v : Service} (hE : regErr m v = 0) : nameS v.Name = true ∧ badNums v = false ∧ aGet m v.Name = none := by
  unfold regErr at hE
  split at hE
  · simp at hE
  split at hE
  · simp at hE
  rename_i h1 h2
  refine ⟨by simpa using h1, by simpa using h2, ?_⟩
  cases hg : aGet m v.Name with
  | none => rfl
  | some u => rw [hg] at hE; simp at hE
theorem val_reg {m : List (ByteArray × Service)} (h : Val m) (v : Service) : Val (regM m v) := by
  unfold regM; split
  · rename_i hE
    obtain ⟨h1, h2, h3⟩ := regErr_ok hE
    rw [aSet_new h3]
    intro p hp
    rcases List.mem_append.1 hp with hp | hp
    · exact h p hp
    · simp at hp; subst hp; exact ⟨h1, h2⟩
  · exact h
theorem val_un {m : List (ByteArray × Service)} (h : Val m) (name : ByteArray) (core : Int) : Val (unM m name core) := by
  unfold unM; split
  · exact val_sub h aDel_sub
  · exact h
theorem val_dep {m : List (ByteArray × Service)} (h : Val m) (l : List Service) : Val (delAll m l) := val_sub h (delAll_sub _ _)
end Go.Proofs.Ytekdbdhkpolooaa
