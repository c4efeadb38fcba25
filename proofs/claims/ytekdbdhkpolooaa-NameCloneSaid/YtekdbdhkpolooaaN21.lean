/- Plain law: what a name server keeps under every step. -/
import Derived.Test.YtekdbdhkpolooaaN20
open Go Mk
namespace Go.Proofs.Ytekdbdhkpolooaa
set_option maxHeartbeats 400000
attribute [local irreducible] Calls

structure Inv (m : List (ByteArray × Service)) (ws : List Waiter) : Prop where
  key : ∀ p ∈ m, p.1 = p.2.Name
  nd : (m.map (·.1)).Nodup
  ml : m.length ≤ 64
  wl : ws.length ≤ 64
  wu : ws.Pairwise fun a b => ¬ (a.Token = b.Token ∧ a.Core = b.Core)
  fr : ∀ x ∈ ws, x.Name ∉ m.map (·.1)
theorem inv_nil : Inv [] [] := ⟨fun _ h => by simp at h, by simp, by simp, by simp, by simp, fun _ h => by simp at h⟩
theorem inv_sub {m m' : List (ByteArray × Service)} {ws ws' : List Waiter} (h : Inv m ws) (h1 : m'.Sublist m) (h2 : ws'.Sublist ws) : Inv m' ws' :=
  ⟨fun p hp => h.key p (h1.subset hp), h.nd.sublist (h1.map _), Nat.le_trans h1.length_le h.ml, Nat.le_trans h2.length_le h.wl, h.wu.sublist h2, fun x hx hm => h.fr x (h2.subset hx) ((h1.map _).subset hm)⟩
theorem aSet_new {m : List (ByteArray × Service)} {a : ByteArray} {v : Service} (h : aGet m a = none) : aSet m a v = m ++ [(a, v)] := by
  unfold aGet at h
  unfold aSet
  cases hi : aIx m a with
  | none => rfl
  | some i =>
    obtain ⟨u, hu⟩ := aIx_get hi
    rw [hi] at h
    simp [hu] at h
theorem inv_reg {m : List (ByteArray × Service)} {ws : List Waiter} (h : Inv m ws) (v : Service) : Inv (regM m v) (regW m ws v) := by
  by_cases hE : regErr m v = 0
  · have hg : aGet m v.Name = none := by
      unfold regErr at hE
      cases hg : aGet m v.Name with
      | none => rfl
      | some u =>
        rw [hg] at hE
        split at hE
        · simp at hE
        split at hE
        · simp at hE
        simp at hE
    have hl : m.length ≠ 64 := by
      intro hl
      unfold regErr at hE
      rw [hg, if_pos hl] at hE
      split at hE
      · simp at hE
      split at hE
      · simp at hE
      simp at hE
    have h1 : regM m v = m ++ [(v.Name, v)] := by unfold regM; rw [if_pos hE, aSet_new hg]
    have h2 : regW m ws v = ws.filter fun x => !decide (x.Name = v.Name) := by unfold regW; rw [if_pos hE]
    rw [h1, h2]
    have hs : (ws.filter fun x => !decide (x.Name = v.Name)).Sublist ws := List.filter_sublist
    refine ⟨fun p hp => ?_, ?_, ?_, Nat.le_trans hs.length_le h.wl, h.wu.sublist hs, fun x hx hm => ?_⟩
    · rcases List.mem_append.1 hp with hp | hp
      · exact h.key p hp
      · simp at hp; subst hp; rfl
    · rw [List.map_append, List.nodup_append]
      refine ⟨h.nd, by simp, fun a ha b hb => ?_⟩
      simp only [List.map_cons, List.map_nil, List.mem_singleton] at hb
      subst hb
      intro he; subst he
      exact aGet_none.1 hg ha
    · have := h.ml
      simp; omega
    · rw [List.mem_filter] at hx
      rw [List.map_append, List.mem_append] at hm
      rcases hm with hm | hm
      · exact h.fr x hx.1 hm
      · simp at hm; simp [hm] at hx
  · rw [show regM m v = m from by simp [regM, hE], show regW m ws v = ws from by simp [regW, hE]]; exact h
theorem inv_un {m : List (ByteArray × Service)} {ws : List Waiter} (h : Inv m ws) (name : ByteArray) (core : Int) : Inv (unM m name core) ws := by
  unfold unM; split
  · exact inv_sub h aDel_sub (List.Sublist.refl _)
  · exact h
theorem inv_aw {m : List (ByteArray × Service)} {ws : List Waiter} (h : Inv m ws) (x : Waiter) : Inv m (awW m ws x) := by
  unfold awW; split
  · rename_i hE
    obtain ⟨hE, hg⟩ := hE
    have hg : aGet m x.Name = none := by simpa using hg
    unfold awErr at hE
    rw [hg] at hE
    split at hE
    · simp at hE
    split at hE
    · simp at hE
    split at hE
    · simp at hE
    rename_i hf
    split at hE
    · simp at hE
    rename_i hl
    have hl : ws.length ≠ 64 := fun hh => hl ⟨rfl, hh⟩
    have hf : ws.findIdx? (isW x.Token x.Core) = none := by simpa using hf
    rw [List.findIdx?_eq_none_iff] at hf
    refine ⟨h.key, h.nd, h.ml, by have := h.wl; simp; omega, ?_, fun y hy hm => ?_⟩
    · rw [List.pairwise_append]
      refine ⟨h.wu, by simp, fun a ha b hb => ?_⟩
      simp at hb; subst hb
      have := hf a ha
      simpa [isW] using this
    · rcases List.mem_append.1 hy with hy | hy
      · exact h.fr y hy hm
      · simp at hy; subst hy; exact aGet_none.1 hg hm
  · exact h
theorem inv_ca {m : List (ByteArray × Service)} {ws : List Waiter} (h : Inv m ws) (token core : Int) : Inv m (caW ws token core) := by
  unfold caW; split
  · exact inv_sub h (List.Sublist.refl _) (List.eraseIdx_sublist _ _)
  · exact h
theorem inv_dep {m : List (ByteArray × Service)} {ws : List Waiter} (h : Inv m ws) (l : List Service) (p : Waiter → Bool) : Inv (delAll m l) (ws.filter p) := inv_sub h (delAll_sub _ _) List.filter_sublist

theorem sorted_nd {m : List (ByteArray × Service)} {ws : List Waiter} {ys : List Service} (h : Inv m ws) (hs : Sorted m ys) : (ys.map (·.Name)).Perm (m.map (·.1)) := by
  have h1 := hs.perm.map (·.Name)
  rw [List.map_map] at h1
  have h2 : m.map ((·.Name) ∘ (·.2)) = m.map (·.1) := List.map_congr_left fun p hp => (h.key p hp).symm
  rw [h2] at h1; exact h1
theorem sorted_strict {m : List (ByteArray × Service)} {ws : List Waiter} {ys : List Service} (h : Inv m ws) (hs : Sorted m ys) : ys.Pairwise fun a b => bLt a.Name b.Name = true := by
  have h1 : (ys.map (·.Name)).Nodup := (sorted_nd h hs).nodup_iff.2 h.nd
  rw [List.Nodup, List.pairwise_map] at h1
  refine (List.Pairwise.and hs.asc h1).imp fun {a b} hab => ?_
  cases hc : bLt a.Name b.Name with
  | true => rfl
  | false => exact absurd (bLt_total hc hab.1) hab.2
theorem sorted_free {m : List (ByteArray × Service)} {ws : List Waiter} {ys : List Service} (h : Inv m ws) (hs : Sorted m ys) {x : Waiter} {y : Service} (hx : x ∈ ws) (hy : y ∈ ys) : x.Name ≠ y.Name := fun he =>
  h.fr x hx ((sorted_nd h hs).mem_iff.1 (he ▸ List.mem_map.2 ⟨y, hy, rfl⟩))

theorem erase_filter {α : Type} {p : α → Bool} : ∀ {l : List α} {k : Nat}, l.Pairwise (fun a b => ¬ (p a = true ∧ p b = true)) → l.findIdx? p = some k → l.eraseIdx k = l.filter fun x => !p x
  | [], k, _, h => by simp at h
  | a :: l, k, hw, h => by
    rw [List.findIdx?_cons] at h
    rw [List.pairwise_cons] at hw
    cases hp : p a with
    | true =>
      rw [hp] at h; simp at h; subst h
      rw [List.filter_cons]
      simp only [hp, Bool.not_true, Bool.false_eq_true, if_false, List.eraseIdx_zero, List.tail_cons]
      refine (List.filter_eq_self.2 fun b hb => ?_).symm
      have := hw.1 b hb
      rw [hp] at this
      simpa using this
    | false =>
      rw [hp] at h; simp at h
      obtain ⟨j, hj, rfl⟩ := h
      rw [List.eraseIdx_cons_succ, List.filter_cons, hp]
      simp only [Bool.not_false, if_true]
      rw [erase_filter hw.2 hj]
theorem woK_one {token core : Int} {x : Waiter} : woK token core false x = !isW token core x := by
  unfold woK isW
  by_cases h1 : x.Token = token <;> by_cases h2 : x.Core = core <;> simp [h1, h2]
theorem cancel_eq {m : List (ByteArray × Service)} {ws : List Waiter} (h : Inv m ws) {token core : Int} (hc : caErr ws token core = 0) : caW ws token core = ws.filter (woK token core false) := by
  unfold caErr at hc
  unfold caW
  cases hf : ws.findIdx? (isW token core) with
  | none => rw [hf] at hc; simp at hc
  | some k =>
    show ws.eraseIdx k = _
    rw [erase_filter (p := isW token core) (h.wu.imp fun {a b} hab hh => hab ?_) hf]
    · exact List.filter_congr fun x _ => woK_one.symm
    · simp [isW] at hh; exact ⟨hh.1.1.trans hh.2.1.symm, hh.1.2.trans hh.2.2.symm⟩
theorem cancel_ne {ws : List Waiter} {token core : Int} (hc : caErr ws token core ≠ 0) : caW ws token core = ws := by
  unfold caErr at hc
  unfold caW
  cases hf : ws.findIdx? (isW token core) with
  | none => rfl
  | some k => rw [hf] at hc; simp at hc
theorem dep_eq {core : Int} {ws : List Waiter} : ws.filter (woK 0 core true) = ws.filter fun x => !ofCore core x := List.filter_congr fun x _ => by simp [woK, ofCore]

/-- The waiters that are still to be answered, when k are. -/
def left (v : Service) (ws : List Waiter) (k : Nat) : List Waiter := ws.filter fun x => decide (x ∉ (ws.filter fun x => decide (x.Name = v.Name)).take k)
theorem left_zero {v : Service} {ws : List Waiter} : left v ws 0 = ws := by simp [left]
theorem left_all {v : Service} {ws : List Waiter} : left v ws (ws.filter fun x => decide (x.Name = v.Name)).length = ws.filter fun x => !decide (x.Name = v.Name) := by
  unfold left
  rw [List.take_length]
  exact List.filter_congr fun x hx => by simp [List.mem_filter, hx]
theorem left_step {m : List (ByteArray × Service)} {ws : List Waiter} (h : Inv m ws) {v : Service} {k : Nat} {x : Waiter} (hx : (ws.filter fun x => decide (x.Name = v.Name))[k]? = some x) :
    x.Name = v.Name ∧ ∃ j, (left v ws k)[j]? = some x ∧ (∀ i y, (left v ws k)[i]? = some y → y.Token = x.Token → y.Core = x.Core → i = j) ∧ (left v ws k).eraseIdx j = left v ws (k + 1) := by
  have hxm := List.mem_of_getElem? hx
  have hxw := List.mem_filter.1 hxm
  have hu : (left v ws k).Pairwise fun a b => ¬ (a.Token = b.Token ∧ a.Core = b.Core) := h.wu.sublist List.filter_sublist
  have hM : (ws.filter fun x => decide (x.Name = v.Name)).Pairwise fun a b => ¬ (a.Token = b.Token ∧ a.Core = b.Core) := h.wu.sublist List.filter_sublist
  have hxl : x ∈ left v ws k := by
    unfold left
    refine List.mem_filter.2 ⟨hxw.1, decide_eq_true fun hm => ?_⟩
    obtain ⟨i, hi, hie⟩ := List.getElem_of_mem hm
    rw [List.length_take] at hi
    obtain ⟨hk, hke⟩ := List.getElem?_eq_some_iff.1 hx
    have := (List.pairwise_iff_getElem.1 hM) i k (by omega) hk (by omega)
    rw [List.getElem_take] at hie
    rw [hie, hke] at this
    exact this ⟨rfl, rfl⟩
  obtain ⟨j, hj, hje⟩ := List.getElem_of_mem hxl
  have huq : ∀ i y, (left v ws k)[i]? = some y → y.Token = x.Token → y.Core = x.Core → i = j := fun i y hy h1 h2 => by
    obtain ⟨hi, hie⟩ := List.getElem?_eq_some_iff.1 hy
    have hp := List.pairwise_iff_getElem.1 hu
    rcases Nat.lt_trichotomy i j with hlt | he | hlt
    · exact absurd ⟨by rw [hie, hje, h1], by rw [hie, hje, h2]⟩ (hp i j hi hj hlt)
    · exact he
    · exact absurd ⟨by rw [hie, hje, h1], by rw [hie, hje, h2]⟩ (hp j i hj hi hlt)
  refine ⟨by simpa using hxw.2, j, List.getElem?_eq_some_iff.2 ⟨hj, hje⟩, huq, ?_⟩
  have hf : (left v ws k).findIdx? (fun y => decide (y = x)) = some j := findIdx_at (x := x) (List.getElem?_eq_some_iff.2 ⟨hj, hje⟩) (by simp) fun i y hi hy => by
    cases hd : decide (y = x) with
    | false => rfl
    | true => exact absurd (huq i y hy (by rw [of_decide_eq_true hd]) (by rw [of_decide_eq_true hd])) (by omega)
  rw [erase_filter (p := fun y => decide (y = x)) (hu.imp fun {a b} hab hh => hab ?_) hf]
  · unfold left
    rw [List.filter_filter]
    refine List.filter_congr fun y _ => ?_
    rw [List.take_add_one, hx]
    simp only [List.mem_append, Option.toList_some, List.mem_singleton]
    by_cases h1 : y = x <;> by_cases h2 : y ∈ (ws.filter fun x => decide (x.Name = v.Name)).take k <;> simp [h1, h2]
  · simp at hh; rw [hh.1, hh.2]; exact ⟨rfl, rfl⟩
end Go.Proofs.Ytekdbdhkpolooaa
