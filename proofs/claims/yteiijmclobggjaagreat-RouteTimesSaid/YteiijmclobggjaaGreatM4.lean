/- Texts of this proof, one behind another. -/
import Derived.Test.YteiijmclobggjaaGreatM3
import Derived.Test.YteiijmclobggjaaGreatM2
import Derived.Shelf.SlLaysF
set_option linter.unusedVariables false
set_option linter.unusedSimpArgs false
/- What height computes, in plain words. -/
section
open Go Mk
namespace Go.Proofs.YteiijmclobggjaaGreat

def tcmp (t : Int → Int) (a b : Int) : Int := orI (cI (t b) (t a)) (cI a b)
theorem cI_lt {a b : Int} : cI a b < 0 ↔ a < b := by unfold cI; split <;> (try split) <;> omega
theorem cI_0 {a b : Int} : cI a b = 0 ↔ a = b := by unfold cI; split <;> (try split) <;> omega
theorem tcmp_lt {t : Int → Int} {a b : Int} : Go.Proofs.ltOf (tcmp t) a b = true ↔ t b < t a ∨ (t a = t b ∧ a < b) := by
  unfold Go.Proofs.ltOf tcmp orI
  rw [decide_eq_true_eq]
  by_cases h : cI (t b) (t a) = 0
  · rw [if_pos h, cI_lt]; rw [cI_0] at h; omega
  · rw [if_neg h, cI_lt]; rw [cI_0] at h; omega
theorem tcmp_nlt {t : Int → Int} {a b : Int} : Go.Proofs.ltOf (tcmp t) a b = false ↔ t a < t b ∨ (t a = t b ∧ b ≤ a) := by
  have h : Go.Proofs.ltOf (tcmp t) a b = false ↔ ¬ Go.Proofs.ltOf (tcmp t) a b = true := by simp
  rw [h, tcmp_lt]; omega
theorem tcmp_swo (t : Int → Int) : Go.Sort.SWO (Go.Proofs.ltOf (tcmp t)) where
  irrefl x := by rw [tcmp_nlt]; omega
  trans x y z := by simp only [tcmp_lt]; omega
  ntrans x y z := by simp only [tcmp_nlt]; omega
theorem tcmp_tot (t : Int → Int) (x y : Int) (h : Go.Proofs.ltOf (tcmp t) x y = false) (k : Go.Proofs.ltOf (tcmp t) y x = false) : x = y := by
  rw [tcmp_nlt] at h k; omega
/-- The order of transmission. -/
def tsort (t : Int → Int) (l : List Int) : List Int := l.mergeSort fun x y => !(Go.Proofs.ltOf (tcmp t)) y x
theorem tsort_perm (t : Int → Int) (l : List Int) : (tsort t l).Perm l := List.mergeSort_perm _ _
theorem tsort_congr {t t' : Int → Int} {l : List Int} (h : ∀ a ∈ l, t a = t' a) : tsort t l = tsort t' l := by
  have := List.map_mergeSort (f := (id : Int → Int)) (r := fun x y => !(Go.Proofs.ltOf (tcmp t)) y x) (s := fun x y => !(Go.Proofs.ltOf (tcmp t')) y x) (l := l) (fun a ha b hb => by
    show (!(Go.Proofs.ltOf (tcmp t)) b a) = (!(Go.Proofs.ltOf (tcmp t')) b a)
    unfold Go.Proofs.ltOf tcmp
    rw [h a ha, h b hb])
  simpa [tsort] using this
theorem tsort_pairwise (t : Int → Int) (l : List Int) : (tsort t l).Pairwise fun x y => t y < t x ∨ (t x = t y ∧ x ≤ y) := by
  have := List.pairwise_mergeSort (le := fun x y => !(Go.Proofs.ltOf (tcmp t)) y x) (fun a b c => by simp only [Bool.not_eq_true', tcmp_nlt]; omega) (fun a b => by simp only [Bool.or_eq_true, Bool.not_eq_true', tcmp_nlt]; omega) l
  refine this.imp fun h => ?_
  rw [Bool.not_eq_true', tcmp_nlt] at h
  omega
theorem tsort_of_perm {t : Int → Int} {l l' : List Int} (h : l.Perm l') : tsort t l = tsort t l' := by
  have p : (tsort t l).Perm (tsort t l') := (tsort_perm t l).trans (h.trans (tsort_perm t l').symm)
  exact p.eq_of_pairwise (fun a b _ _ h k => by omega) (tsort_pairwise t l) (tsort_pairwise t l')

section
variable (far : Int → Int → Int) (cost : Int) (ch : Int → List Int)
def hmostF (cost : Int) (t : Int → Int) : Nat → Int → List Int → Int
  | _, m, [] => m
  | i, m, c :: l => hmostF cost t (i + 1) (max m (((i : Int) + 1) * cost + t c)) l
def hF : Nat → Int → Int
  | 0, _ => 0
  | k + 1, c => hmostF cost (fun d => far c d + hF k d) 0 0 (tsort (fun d => far c d + hF k d) (ch c))
def Dep : Nat → Int → Prop
  | 0, _ => False
  | k + 1, c => ∀ d ∈ ch c, Dep k d
inductive Rch : Int → Int → Prop
  | refl (c : Int) : Rch c c
  | step {c d x : Int} : d ∈ ch c → Rch d x → Rch c x
/-- Heights, tails and the order of the children, for a tree of depth at most 4. -/
def hh (c : Int) : Int := hF far cost ch 4 c
def tl (c d : Int) : Int := far c d + hh far cost ch d
def srt (c : Int) : List Int := tsort (tl far cost ch c) (ch c)
end
section
variable {far : Int → Int → Int} {cost : Int} {ch : Int → List Int}
theorem Dep.mono : ∀ {k m : Nat} {c : Int}, Dep ch k c → k ≤ m → Dep ch m c
  | 0, _, _, h, _ => h.elim
  | k + 1, 0, _, _, hm => by omega
  | k + 1, m + 1, c, h, hm => fun d hd => Dep.mono (h d hd) (by omega)
theorem hmostF_congr {t t' : Int → Int} : ∀ {l : List Int} {i : Nat} {m : Int}, (∀ a ∈ l, t a = t' a) → hmostF cost t i m l = hmostF cost t' i m l
  | [], _, _, _ => rfl
  | c :: l, i, m, h => by
    unfold hmostF
    rw [h c (by simp)]
    exact hmostF_congr fun a ha => h a (by simp [ha])
theorem hF_stable : ∀ {k m : Nat} {c : Int}, Dep ch k c → k ≤ m → hF far cost ch m c = hF far cost ch k c
  | 0, _, _, h, _ => h.elim
  | k + 1, 0, _, _, hm => by omega
  | k + 1, m + 1, c, h, hm => by
    have ht : ∀ d ∈ ch c, far c d + hF far cost ch m d = far c d + hF far cost ch k d := fun d hd => by rw [hF_stable (h d hd) (by omega)]
    unfold hF
    rw [tsort_congr ht]
    exact hmostF_congr fun a ha => ht a ((tsort_perm _ _).mem_iff.1 ha)
theorem hh_eq {k : Nat} {c : Int} (hd : Dep ch k c) (hk : k ≤ 4) : hh far cost ch c = hmostF cost (tl far cost ch c) 0 0 (srt far cost ch c) := by
  have hd4 : Dep ch 4 c := hd.mono hk
  unfold hh
  rw [show (4 : Nat) = 3 + 1 from rfl]
  unfold hF
  have ht : ∀ d ∈ ch c, far c d + hF far cost ch 3 d = tl far cost ch c d := fun d hdm => by
    unfold tl hh
    rw [hF_stable (hd4 d hdm) (show 3 ≤ 4 by omega)]
  rw [tsort_congr ht]
  exact hmostF_congr fun a ha => ht a ((tsort_perm _ _).mem_iff.1 ha)
theorem Rch.trans {a b c : Int} (h : Rch ch a b) (k : Rch ch b c) : Rch ch a c := by
  induction h with
  | refl => exact k
  | step hd _ ih => exact .step hd (ih k)
theorem Dep.rch {k : Nat} {a b : Int} (h : Rch ch a b) (hd : Dep ch k a) : Dep ch k b := by
  induction h with
  | refl => exact hd
  | step hm _ ih =>
    cases k with
    | zero => exact hd.elim
    | succ k => exact ih ((hd _ hm).mono (by omega))
theorem no_cycle {c d : Int} (hd : d ∈ ch c) (hr : Rch ch d c) : ∀ {k : Nat}, ¬ Dep ch k c
  | 0, h => h
  | k + 1, h => no_cycle hd hr (k := k) ((h d hd).rch hr)
theorem srt_perm (c : Int) : (srt far cost ch c).Perm (ch c) := tsort_perm _ _
/-- What is sorted below c. -/
noncomputable def upS (far : Int → Int → Int) (cost : Int) (ch : Int → List Int) (D : Int → Prop) (cur : Int → List Int) : Int → List Int := fun x => @ite _ (D x) (Classical.propDecidable _) (srt far cost ch x) (cur x)
theorem upS_in {D : Int → Prop} {cur : Int → List Int} {x : Int} (h : D x) : upS far cost ch D cur x = srt far cost ch x := if_pos h
theorem upS_out {D : Int → Prop} {cur : Int → List Int} {x : Int} (h : ¬ D x) : upS far cost ch D cur x = cur x := if_neg h
theorem upS_upS {D D' : Int → Prop} {cur : Int → List Int} : upS far cost ch D' (upS far cost ch D cur) = upS far cost ch (fun x => D x ∨ D' x) cur := by
  funext x
  by_cases h : D' x
  · rw [upS_in h, upS_in (.inr h)]
  · rw [upS_out h]
    by_cases h2 : D x
    · rw [upS_in h2, upS_in (.inl h2)]
    · rw [upS_out h2, upS_out (fun h3 => h3.elim h2 h)]
theorem upS_congr {D D' : Int → Prop} {cur : Int → List Int} (h : ∀ x, D x ↔ D' x) : upS far cost ch D cur = upS far cost ch D' cur := by
  have : D = D' := funext fun x => propext (h x)
  rw [this]
theorem upS_perm {D : Int → Prop} {cur : Int → List Int} {x : Int} (h : (cur x).Perm (ch x)) : (upS far cost ch D cur x).Perm (ch x) := by
  by_cases hd : D x
  · rw [upS_in hd]; exact srt_perm x
  · rw [upS_out hd]; exact h
theorem hmostF_bound {t : Int → Int} {B : Int} (hc : 0 ≤ cost ∧ cost ≤ 1000000) (hB : 0 ≤ B) {l : List Int} : ∀ {i : Nat} {m : Int}, (∀ a ∈ l, 0 ≤ t a ∧ t a ≤ B) → 0 ≤ m → m ≤ (i : Int) * 1000000 + B → 0 ≤ hmostF cost t i m l ∧ hmostF cost t i m l ≤ ((i : Int) + (l.length : Int)) * 1000000 + B := by
  induction l with
  | nil =>
    intro i m _ h0 hm
    unfold hmostF
    exact ⟨h0, by simpa using hm⟩
  | cons c l ih =>
    intro i m h h0 hm
    unfold hmostF
    have h1 := h c (by simp)
    have h2 : ((i : Int) + 1) * cost ≤ ((i : Int) + 1) * 1000000 := Int.mul_le_mul_of_nonneg_left hc.2 (by omega)
    have h3 : 0 ≤ ((i : Int) + 1) * cost := Int.mul_nonneg (by omega) hc.1
    generalize ((i : Int) + 1) * cost = q at h2 h3
    have h4 := ih (i := i + 1) (m := max m (q + t c)) (fun a ha => h a (by simp [ha])) (by omega) (by omega)
    refine ⟨h4.1, ?_⟩
    have h5 := h4.2
    rw [List.length_cons]
    omega
theorem hh_bound (hc : 0 ≤ cost ∧ cost ≤ 1000000) : ∀ {k : Nat} {c : Int}, Dep ch k c → k ≤ 4 → (∀ a b, Rch ch c a → b ∈ ch a → 0 ≤ far a b ∧ far a b ≤ 63000000) → (∀ a, Rch ch c a → (ch a).length ≤ 1000) → 0 ≤ hh far cost ch c ∧ hh far cost ch c ≤ (k : Int) * 1063000000
  | 0, _, h, _, _, _ => h.elim
  | k + 1, c, h, hk, hf, hl => by
    rw [hh_eq h hk]
    have hm : ∀ d ∈ srt far cost ch c, 0 ≤ tl far cost ch c d ∧ tl far cost ch c d ≤ (k : Int) * 1063000000 + 63000000 := fun d hd => by
      have hd : d ∈ ch c := (srt_perm c).mem_iff.1 hd
      have h1 := hh_bound hc (h d hd) (by omega) (fun a b hr hb => hf a b (.step hd hr) hb) (fun a hr => hl a (.step hd hr))
      have h2 := hf c d (.refl c) hd
      unfold tl
      omega
    have := hmostF_bound (cost := cost) hc (B := (k : Int) * 1063000000 + 63000000) (by omega) (i := 0) (m := 0) hm (Int.le_refl _) (by omega)
    have h3 := hl c (.refl c)
    have h4 := (srt_perm (far := far) (cost := cost) (ch := ch) c).length_eq
    refine ⟨this.1, ?_⟩
    have h5 := this.2
    rw [h4] at h5
    omega
end
end Go.Proofs.YteiijmclobggjaaGreat
end
/- Heaps as lists: what sifting up and down does. -/
section
namespace Go.Proofs.YteiijmclobggjaaGreat

abbrev Pl := Int × Int
def hk (l : List Pl) (i : Nat) : Int := (l.getD i (0, 0)).2
theorem hk_of {l : List Pl} {i : Nat} {x : Pl} (h : l[i]? = some x) : hk l i = x.2 := by unfold hk; rw [List.getD_eq_getElem?_getD, h]; rfl
def swp (l : List Pl) (i j : Nat) : List Pl := (l.set i (l.getD j (0, 0))).set j (l.getD i (0, 0))
theorem swp_len (l : List Pl) (i j : Nat) : (swp l i j).length = l.length := by simp [swp]
theorem swp_get {l : List Pl} {i j : Nat} (hi : i < l.length) (hj : j < l.length) (k : Nat) : (swp l i j)[k]? = if k = j then l[i]? else if k = i then l[j]? else l[k]? := by
  unfold swp
  rw [List.getElem?_set]
  by_cases h1 : j = k
  · subst h1
    rw [if_pos rfl, if_pos (by simpa using hj), if_pos rfl]
    rw [List.getD_eq_getElem?_getD, List.getElem?_eq_getElem hi]; rfl
  · rw [if_neg h1, if_neg (Ne.symm h1), List.getElem?_set]
    by_cases h2 : i = k
    · subst h2
      rw [if_pos rfl, if_pos hi, if_pos rfl, List.getD_eq_getElem?_getD, List.getElem?_eq_getElem hj]; rfl
    · rw [if_neg h2, if_neg (Ne.symm h2)]
theorem swp_hk {l : List Pl} {i j : Nat} (hi : i < l.length) (hj : j < l.length) (k : Nat) : hk (swp l i j) k = if k = j then hk l i else if k = i then hk l j else hk l k := by
  unfold hk
  simp only [List.getD_eq_getElem?_getD, swp_get hi hj]
  split
  · rfl
  · split <;> rfl
theorem swp_perm {l : List Pl} {i j : Nat} (hi : i < l.length) (hj : j < l.length) : (swp l i j).Perm l := by
  rw [List.perm_iff_count]
  intro a
  have e1 : l.getD i (0, 0) = l[i] := by rw [List.getD_eq_getElem?_getD, List.getElem?_eq_getElem hi]; rfl
  have e2 : l.getD j (0, 0) = l[j] := by rw [List.getD_eq_getElem?_getD, List.getElem?_eq_getElem hj]; rfl
  unfold swp
  rw [e1, e2]
  by_cases e : i = j
  · subst e
    rw [List.set_set]
    simp
  · rw [List.count_set (by simpa using hj), List.count_set hi]
    rw [List.getElem_set_ne e]
    have h1 : (if l[i] == a then 1 else 0) ≤ l.count a := by
      split
      · rename_i h; exact List.one_le_count_iff.2 (by rw [← eq_of_beq h]; exact List.getElem_mem ..)
      · omega
    have h2 : (if l[j] == a then 1 else 0) ≤ l.count a := by
      split
      · rename_i h; exact List.one_le_count_iff.2 (by rw [← eq_of_beq h]; exact List.getElem_mem ..)
      · omega
    omega

def HeapN (l : List Pl) (n : Nat) : Prop := ∀ k, 0 < k → k < n → hk l ((k - 1) / 2) ≤ hk l k
def UpL (l : List Pl) (j : Nat) : Prop := (∀ k, 0 < k → k < l.length → k ≠ j → hk l ((k - 1) / 2) ≤ hk l k) ∧ (0 < j → ∀ k, 0 < k → k < l.length → (k - 1) / 2 = j → hk l ((j - 1) / 2) ≤ hk l k)
def DownL (l : List Pl) (i n : Nat) : Prop := (∀ k, 0 < k → k < n → (k - 1) / 2 ≠ i → hk l ((k - 1) / 2) ≤ hk l k) ∧ (0 < i → ∀ k, 0 < k → k < n → (k - 1) / 2 = i → hk l ((i - 1) / 2) ≤ hk l k)

theorem up_step {l : List Pl} {j : Nat} (h : UpL l j) (h0 : 0 < j) (hj : j < l.length) (hlt : hk l j < hk l ((j - 1) / 2)) : UpL (swp l ((j - 1) / 2) j) ((j - 1) / 2) := by
  have hi : (j - 1) / 2 < l.length := by omega
  refine ⟨fun k k0 kn ki => ?_, fun i0 k k0 kn kp => ?_⟩
  · rw [swp_len] at kn
    rw [swp_hk hi hj, swp_hk hi hj]
    by_cases e : k = j
    · subst e
      rw [if_neg (by omega), if_pos rfl, if_pos rfl]; omega
    · rw [if_neg e, if_neg ki]
      have hd := h.1 k k0 kn e
      by_cases e2 : (k - 1) / 2 = j
      · rw [if_pos e2]; exact h.2 h0 k k0 kn e2
      · rw [if_neg e2]
        by_cases e3 : (k - 1) / 2 = (j - 1) / 2
        · rw [if_pos e3]; rw [e3] at hd; omega
        · rw [if_neg e3]; exact hd
  · rw [swp_len] at kn
    rw [swp_hk hi hj, swp_hk hi hj]
    rw [if_neg (by omega), if_neg (by omega)]
    have hd := h.1 _ i0 hi (by omega)
    by_cases e : k = j
    · rw [if_pos e]; exact hd
    · rw [if_neg e, if_neg (by omega)]
      have := h.1 k k0 kn e
      rw [kp] at this
      omega
theorem up_stop {l : List Pl} {j : Nat} (h : UpL l j) (hs : j = 0 ∨ hk l ((j - 1) / 2) ≤ hk l j) : HeapN l l.length := fun k k0 kn => by
  by_cases e : k = j
  · subst e; exact hs.resolve_left (by omega)
  · exact h.1 k k0 kn e
theorem up_init {l : List Pl} {x : Pl} (h : HeapN l l.length) : UpL (l ++ [x]) l.length := by
  have hq : ∀ k, k < l.length → hk (l ++ [x]) k = hk l k := fun k hk' => by
    unfold hk; rw [List.getD_eq_getElem?_getD, List.getD_eq_getElem?_getD, List.getElem?_append_left hk']
  refine ⟨fun k k0 kn ki => ?_, fun i0 k k0 kn kp => ?_⟩
  · simp only [List.length_append, List.length_singleton] at kn
    rw [hq k (by omega), hq _ (by omega)]; exact h k k0 (by omega)
  · simp only [List.length_append, List.length_singleton] at kn; omega

theorem down_step {l : List Pl} {i j n : Nat} (h : DownL l i n) (hn : n ≤ l.length) (hj : j < n) (h0 : 0 < j) (hp : (j - 1) / 2 = i) (hlt : hk l j < hk l i) (hmin : ∀ k, 0 < k → k < n → (k - 1) / 2 = i → hk l j ≤ hk l k) : DownL (swp l i j) j n := by
  have hi' : i < l.length := by omega
  have hj' : j < l.length := by omega
  refine ⟨fun k k0 kn kp => ?_, fun _ k k0 kn kp => ?_⟩
  · rw [swp_hk hi' hj', swp_hk hi' hj', if_neg kp]
    by_cases e : (k - 1) / 2 = i
    · rw [if_pos e]
      by_cases e2 : k = j
      · rw [if_pos e2]; omega
      · rw [if_neg e2, if_neg (by omega)]; exact hmin k k0 kn e
    · rw [if_neg e, if_neg (fun e2 => e (by rw [e2]; exact hp))]
      by_cases e2 : k = i
      · rw [if_pos e2]
        subst e2
        exact h.2 k0 j h0 hj hp
      · rw [if_neg e2]; exact h.1 k k0 kn e
  · rw [swp_hk hi' hj', swp_hk hi' hj', hp, if_neg (by omega), if_pos rfl, if_neg (by omega), if_neg (by omega)]
    have := h.1 k k0 kn (by omega)
    rw [kp] at this; exact this
theorem down_stop {l : List Pl} {i n : Nat} (h : DownL l i n) (hs : ∀ k, 0 < k → k < n → (k - 1) / 2 = i → hk l i ≤ hk l k) : HeapN l n := fun k k0 kn => by
  by_cases e : (k - 1) / 2 = i
  · rw [e]; exact hs k k0 kn e
  · exact h.1 k k0 kn e
theorem down_init {l : List Pl} {n : Nat} (h : HeapN l l.length) (hn : l.length = n + 1) : DownL (swp l 0 n) 0 n := by
  refine ⟨fun k k0 kn kp => ?_, fun h0 => absurd h0 (by omega)⟩
  rw [swp_hk (by omega) (by omega), swp_hk (by omega) (by omega), if_neg (by omega), if_neg kp, if_neg (by omega), if_neg (by omega)]
  exact h k k0 (by omega)
theorem heap_root {l : List Pl} {n : Nat} (h : HeapN l n) : ∀ k, k < n → hk l 0 ≤ hk l k := by
  intro k
  induction k using Nat.strongRecOn with
  | ind k ih =>
    intro hk'
    by_cases e : k = 0
    · subst e; exact Int.le_refl _
    · have := h k (by omega) hk'
      have := ih ((k - 1) / 2) (by omega) (by omega)
      omega
theorem heap_take {l : List Pl} {n : Nat} (h : HeapN l n) (hn : n ≤ l.length) : HeapN (l.take n) (l.take n).length := fun k k0 kn => by
  simp only [List.length_take] at kn
  have hq : ∀ m, m < n → hk (l.take n) m = hk l m := fun m hm => by
    unfold hk; rw [List.getD_eq_getElem?_getD, List.getD_eq_getElem?_getD, List.getElem?_take_of_lt hm]
  rw [hq k (by omega), hq _ (by omega)]
  exact h k k0 (by omega)
theorem heap_min {l : List Pl} {x : Pl} (h : HeapN l l.length) (hx : l[0]? = some x) : ∀ y ∈ l, x.2 ≤ y.2 := fun y hy => by
  obtain ⟨k, hk2⟩ := List.mem_iff_getElem?.1 hy
  have hk1 := (List.getElem?_eq_some_iff.1 hk2).1
  have := heap_root h k hk1
  rw [hk_of hx, hk_of hk2] at this
  exact this
theorem perm_take {l L : List Pl} {n : Nat} {x : Pl} (hp : L.Perm l) (hn : L.length = n + 1) (hx : L[n]? = some x) : (x :: L.take n).Perm l := by
  have h1 : L.take n ++ [x] = L := by
    have := List.take_append_drop n L
    obtain ⟨hlt, he⟩ := List.getElem?_eq_some_iff.1 hx
    rw [List.drop_eq_getElem_cons hlt, he, List.drop_eq_nil_of_le (by omega)] at this
    exact this
  refine (List.Perm.trans ?_ hp)
  have h2 : (x :: L.take n).Perm (L.take n ++ [x]) := List.perm_append_comm (l₁ := [x])
  rw [h1] at h2
  exact h2
end Go.Proofs.YteiijmclobggjaaGreat
end
/- The queue of places: container/heap over *places. -/
section
open Go Mk
namespace Go.Proofs.YteiijmclobggjaaGreat
set_option maxHeartbeats 4000000
attribute [local irreducible] Calls
instance : MetP Tryz.prog 114 "multikernel/route.add" 139 := ⟨by kernel_rfl, ⟨_, TPtr.h⟩⟩
instance : MetP Tryz.prog 114 "multikernel/route.take" 141 := ⟨by kernel_rfl, ⟨_, TPtr.h⟩⟩
instance : MetP Tryz.prog 114 "multikernel/route.empty" 140 := ⟨by kernel_rfl, ⟨_, TPtr.h⟩⟩
instance : MetP Tryz.prog 114 "Push" 151 := ⟨by kernel_rfl, ⟨_, TPtr.h⟩⟩
instance : MetP Tryz.prog 114 "Pop" 150 := ⟨by kernel_rfl, ⟨_, TPtr.h⟩⟩
instance : MetV Tryz.prog 114 "Len" 138 115 := ⟨by kernel_rfl, TPtr.h⟩
instance : MetV Tryz.prog 114 "Less" 146 115 := ⟨by kernel_rfl, TPtr.h⟩
instance : MetV Tryz.prog 114 "Swap" 147 115 := ⟨by kernel_rfl, TPtr.h⟩

instance : TCo Tryz.prog 114 := ⟨by kernel_rfl⟩
instance : TCo Tryz.prog 109 := ⟨by kernel_rfl⟩
def plV (p : Pl) : List Value := [.int .i64 p.1, .int .i64 p.2]
abbrev hpO (a : Option Addr) (n c : Nat) (xs : List Pl) : Res := .own (.slice a n c) 109 2 (xs.map plV)
abbrev hpB (b : Nat) (v : Value) : Res := .blk b (.cells #[v] 115)
abbrev hpI (b : Nat) : Value := .iface 114 (.pointer (some ⟨b, 0, none⟩))
theorem pl_get {xs : List Pl} {k : Nat} {x : Pl} (h : xs[k]? = some x) : (xs.map plV)[k]? = some (plV x) := by rw [List.getElem?_map, h]; rfl

theorem len_any {Γ : Gho} {S : List Res} {w : World} {a : Option Addr} {n c : Nat} (hw : Wd Γ S w) :
    Calls Tryz.prog 138 #[.slice a n c] w fun e w' => e = .returned (.int .i64 n) ∧ Wd Γ S w' := by
  refine calls_of_W Tryz.func138 rfl rfl ?_
  repeat (first | refine byW ?_ | (refine byV ?_; intro w hw))
  exact ⟨_, rfl, rfl, hw⟩

theorem less_any {Γ : Gho} {S : List Res} {w : World} {a : Option Addr} {n c : Nat} {xs : List Pl} {i j : Nat} (hi : i < xs.length) (hj : j < xs.length) (hw : Wd Γ (hpO a n c xs :: S) w) :
    Calls Tryz.prog 146 #[.slice a n c, .int .i64 i, .int .i64 j] w fun e w' => e = .returned (.bool (decide (hk xs i < hk xs j))) ∧ Wd Γ (hpO a n c xs :: S) w' := by
  obtain ⟨a', n', c', e, hn, hnc, -⟩ := hw.own_shape (i := 0) rfl
  cases e
  simp only [List.length_map] at hn
  obtain ⟨x, hx⟩ := get_lt (l := xs) (k := i) (by omega)
  obtain ⟨y, hy⟩ := get_lt (l := xs) (k := j) (by omega)
  have hx' := pl_get hx
  have hy' := pl_get hy
  rw [hk_of hx, hk_of hy]
  refine calls_of_W Tryz.func146 rfl rfl ?_
  repeat (first | refine byW ?_ | (refine byV ?_; intro w hw))
  refine W_quiet (by kernel_rfl) (by kernel_rfl) hw ?_
  repeat (first | refine Q_nil ?_ | (apply Q_plain; first | (apply Q_go; first | refine qP ?_ | refine qPg ?_) | refine qY ?_) | (apply Q_guarded; first | (apply Q_go; first | refine qPG ?_ | refine qPgG ?_) | refine qG ?_))
  intro w hw
  repeat (first | refine byW ?_ | (refine byV ?_; intro w hw))
  exact ⟨_, rfl, rfl, hw⟩

theorem swap_any {Γ : Gho} {S : List Res} {w : World} {a : Option Addr} {n c : Nat} {xs : List Pl} {i j : Nat} (hi : i < xs.length) (hj : j < xs.length) (hw : Wd Γ (hpO a n c xs :: S) w) :
    Calls Tryz.prog 147 #[.slice a n c, .int .i64 i, .int .i64 j] w fun e w' => e = .returned (.tuple #[]) ∧ Wd Γ (hpO a n c (swp xs i j) :: S) w' := by
  obtain ⟨a', n', c', e, hn, hnc, -⟩ := hw.own_shape (i := 0) rfl
  cases e
  simp only [List.length_map] at hn
  obtain ⟨x, hx⟩ := get_lt (l := xs) (k := i) (by omega)
  obtain ⟨y, hy⟩ := get_lt (l := xs) (k := j) (by omega)
  have hx' := pl_get hx
  have hy' := pl_get hy
  have hsw : swp xs i j = (xs.set i y).set j x := by unfold swp; rw [List.getD_eq_getElem?_getD, hy, List.getD_eq_getElem?_getD, hx]; rfl
  refine calls_of_W Tryz.func147 rfl rfl ?_
  repeat (first | refine byW ?_ | (refine byV ?_; intro w hw))
  refine W_mix1 [] _ [[],[],[],[],[],[],[],[],[],[],[],[],[],[0],[],[0]] [[],[],[],[],[],[],[0],[0],[],[],[0],[0],[0],[0],[0],[0]] hw ?_
  repeat (first | refine mY ?_ | refine mP ?_ | refine mEndAt ?_ | refine mEnd0 ?_ | refine mEnd ?_)
  refine mStoreE (k := i) (r := plV y) ?_
  repeat (first | refine mY ?_ | refine mP ?_ | refine mEndAt ?_ | refine mEnd0 ?_ | refine mEnd ?_)
  refine mStoreE (k := j) (r := plV x) ?_
  repeat (first | refine mY ?_ | refine mP ?_ | refine mEndAt ?_ | refine mEnd0 ?_ | refine mEnd ?_)
  intro w hw
  have hw := Wd.left (S := Res.own _ _ _ _ :: _) hw
  have hw : Wd Γ (.own (.slice a n c) 109 2 (((xs.map plV).set i (plV y)).set j (plV x)) :: S) w := hw
  rw [← List.map_set, ← List.map_set, ← hsw] at hw
  exact ⟨_, rfl, rfl, hw⟩

theorem push_any {Γ : Gho} {S : List Res} {w : World} {b : Nat} {v : Value} {xs : List Pl} {x : Pl} (hN : xs.length ≤ 1000000) (hw : Wd Γ (hpB b v :: .own v 109 2 (xs.map plV) :: S) w) :
    Calls Tryz.prog 151 #[.pointer (some ⟨b, 0, none⟩), .iface 109 (.agg (plV x).toArray)] w fun e w' => e = .returned (.tuple #[]) ∧ ∃ v', Wd Γ (hpB b v' :: .own v' 109 2 ((xs ++ [x]).map plV) :: S) w' := by
  obtain ⟨a, n, c, rfl, hn, hnc, -⟩ := hw.own_shape (i := 1) rfl
  simp only [List.length_map] at hn
  refine calls_of_W Tryz.func151 rfl rfl ?_
  repeat (first | refine byW ?_ | (refine byV ?_; intro w hw))
  refine W_mix2 [] _ [[],[],[],[],[],[],[1],[0],[],[0]] [[],[],[],[0],[],[],[1],[0,1],[],[0]] [[11], [10]] hw ?_
  repeat (first | refine mY ?_ | refine mP ?_ | refine mEndAt ?_ | refine mEnd0 ?_ | refine mEnd ?_)
  refine mY (v := .agg (plV x).toArray) ?_ (hy := fun Y w g hw => y_assert Tryz.underlying109 rfl)
  repeat (first | refine mY ?_ | refine mP ?_ | refine mEndAt ?_ | refine mEnd0 ?_ | refine mEnd ?_)
  refine mBuild [plV x] ?_
  refine mApp ?_
  repeat (first | refine mY ?_ | refine mP ?_ | refine mEndAt ?_ | refine mEnd0 ?_ | refine mEnd ?_)
  refine mStoreV ?_
  refine mEnd fun w g hw => ?_
  have hw := Wd.dropEnd hw
  have hw : Wd Γ (hpB b (g 11) :: .own (g 11) 109 2 (xs.map plV ++ [plV x]) :: S) w := hw
  rw [show xs.map plV ++ [plV x] = (xs ++ [x]).map plV from by simp] at hw
  exact ⟨_, rfl, rfl, _, hw⟩

theorem hp_load' {Γ : Gho} {S : List Res} {w : World} {b : Nat} {v : Value} (hw : Wd Γ (hpB b v :: S) w) : (loadVar 115 ⟨b, 0, none⟩).run Tryz.prog w = .ok v w :=
  loadVar_cell (i := 0) hw rfl rfl
theorem ps_less {Γ : Gho} {b : Nat} {a : Option Addr} {n c : Nat} {xs : List Pl} {i j : Nat} (hi : i < xs.length) (hj : j < xs.length) :
    PS Tryz.prog Γ [hpB b (.slice a n c), hpO a n c xs] 146 [.slice a n c, .int .i64 i, .int .i64 j] (.bool (decide (hk xs i < hk xs j))) :=
  ⟨fun Y w hw => (less_any hi hj (S := hpB b (.slice a n c) :: Y) (Wd.ps [1] hw)).mono fun e w' ⟨h1, h2⟩ => ⟨h1, Wd.ps [1] h2⟩⟩

theorem half_par {j : Nat} (h : j ≤ 1000000) : IntKind.i64.wrap (((j : Int) - 1).tdiv 2) = (((j - 1) / 2 : Nat) : Int) := by
  by_cases e : j = 0
  · subst e; rfl
  · obtain ⟨k, rfl⟩ : ∃ k, j = k + 1 := ⟨j - 1, by omega⟩
    rw [show ((k + 1 : Nat) : Int) - 1 = (k : Int) from by omega, Nat.add_sub_cancel, Int.tdiv_eq_ediv_of_nonneg (by omega)]
    rw [show (k : Int) / 2 = ((k / 2 : Nat) : Int) from by omega]
    exact wrap_i64 (by omega) (by omega)
/-- Sifting up. -/
theorem up_any {Γ : Gho} {S : List Res} {w : World} {b : Nat} {a : Option Addr} {n c : Nat} {xs : List Pl} {j : Nat} (hN : xs.length ≤ 1000000) (hj : j < xs.length) (hu : UpL xs j) (hw : Wd Γ (hpB b (.slice a n c) :: hpO a n c xs :: S) w) :
    Calls Tryz.prog 144 #[hpI b, .int .i64 j] w fun e w' => e = .returned (.tuple #[]) ∧ ∃ ys, ys.Perm xs ∧ HeapN ys ys.length ∧ Wd Γ (hpB b (.slice a n c) :: hpO a n c ys :: S) w' := by
  refine calls_of_W Tryz.func144 rfl rfl ?_
  repeat (first | refine byW ?_ | (refine byV ?_; intro w hw))
  refine W_loop (fun μ ρ w => ∃ (ys : List Pl), μ < ys.length ∧ ys.Perm xs ∧ UpL ys μ ∧ Has ρ [(0, hpI b), (1, .int .i64 μ)] ∧ Wd Γ (hpB b (.slice a n c) :: hpO a n c ys :: S) w) j ⟨xs, hj, .refl _, hu, ⟨rfl, rfl, trivial⟩, hw⟩ ?_
  clear hw hu hj
  rintro j ρ w ⟨ys, hj, hp, hu, hρ, hw⟩
  have hl := hp.length_eq
  rw [hρ.eq]
  clear hρ
  refine W_block ?_
  refine W_cut (fun ρ w => Has ρ [(0, hpI b), (1, .int .i64 j), (4, .int .i64 ((j - 1) / 2 : Nat))] ∧ Wd Γ (hpB b (.slice a n c) :: hpO a n c ys :: S) w) ?_ ?_
  · repeat (first | refine byW ?_ | (refine byV ?_; intro w hw))
    exact ⟨⟨rfl, rfl, congrArg (Value.int .i64) (half_par (by omega)), trivial⟩, hw⟩
  clear hw
  rintro ρ w ⟨hρ, hw⟩
  rw [hρ.eq]
  clear hρ
  repeat (first | refine byW ?_ | (refine byV ?_; intro w hw))
  refine lInvPG (fun _ => ps_less (j := (j - 1) / 2) hj (by omega)) (hp_load' hw) ?_
  intro w hw
  repeat (first | refine byW ?_ | (refine byV ?_; intro w hw))
  refine W_cond rfl (fun h => ?_) (fun h => ?_)
  · have h : (decide (((((j - 1) / 2 : Nat)) : Int) = j) || !decide (hk ys j < hk ys ((j - 1) / 2))) = true := h
    have hs : j = 0 ∨ hk ys ((j - 1) / 2) ≤ hk ys j := by
      rcases Bool.or_eq_true_iff.1 h with h | h
      · have := of_decide_eq_true h; omega
      · have : ¬ hk ys j < hk ys ((j - 1) / 2) := by simpa using h
        omega
    have hw : Wd Γ (hpB b (.slice a n c) :: hpO a n c ys :: S) w := hw
    repeat (first | refine byW ?_ | (refine byV ?_; intro w hw))
    exact ⟨_, rfl, rfl, ys, hp, up_stop hu hs, hw⟩
  · have h : (decide (((((j - 1) / 2 : Nat)) : Int) = j) || !decide (hk ys j < hk ys ((j - 1) / 2))) = false := h
    obtain ⟨h1, h2⟩ := Bool.or_eq_false_iff.1 h
    have h1 := of_decide_eq_false h1
    have h2 : hk ys j < hk ys ((j - 1) / 2) := by simpa using h2
    have hw : Wd Γ (hpB b (.slice a n c) :: hpO a n c ys :: S) w := hw
    repeat (first | refine byW ?_ | (refine byV ?_; intro w hw))
    refine lInvV (hp_load' hw) ((swap_any (i := (j - 1) / 2) (j := j) (by omega) hj (Wd.ps [1] hw)).mono fun e w hh => ?_)
    obtain ⟨rfl, hw⟩ := hh
    refine ⟨_, rfl, ?_⟩
    have hw : Wd Γ (hpB b (.slice a n c) :: hpO a n c (swp ys ((j - 1) / 2) j) :: S) w := Wd.ps [1] hw
    repeat (first | refine byW ?_ | (refine byV ?_; intro w hw))
    exact ⟨(j - 1) / 2, by omega, swp ys ((j - 1) / 2) j, by rw [swp_len]; omega, (swp_perm (by omega) hj).trans hp, up_step hu (by omega) hj h2, ⟨rfl, rfl, trivial⟩, hw⟩

/-- Sifting down from the root. -/
theorem down_any {Γ : Gho} {S : List Res} {w : World} {b : Nat} {a : Option Addr} {n c : Nat} {xs : List Pl} {m : Nat} (hN : xs.length ≤ 1000000) (hm : m + 1 = xs.length) (hu : DownL xs 0 m) (hw : Wd Γ (hpB b (.slice a n c) :: hpO a n c xs :: S) w) :
    Calls Tryz.prog 145 #[hpI b, .int .i64 0, .int .i64 m] w fun e w' => ∃ r, e = .returned (.bool r) ∧ ∃ ys, ys.Perm xs ∧ ys[m]? = xs[m]? ∧ HeapN ys m ∧ Wd Γ (hpB b (.slice a n c) :: hpO a n c ys :: S) w' := by
  refine calls_of_W Tryz.func145 rfl rfl ?_
  repeat (first | refine byW ?_ | (refine byV ?_; intro w hw))
  refine W_loop (fun μ ρ w => ∃ (i : Nat) (ys : List Pl), μ = m - i ∧ i ≤ m ∧ ys.Perm xs ∧ ys[m]? = xs[m]? ∧ DownL ys i m ∧ Has ρ [(0, hpI b), (1, .int .i64 0), (2, .int .i64 m), (6, .bool false), (7, .int .i64 i)] ∧ Wd Γ (hpB b (.slice a n c) :: hpO a n c ys :: S) w) m ⟨0, xs, by omega, by omega, .refl _, rfl, hu, ⟨rfl, rfl, rfl, rfl, rfl, trivial⟩, hw⟩ ?_
  clear hw hu
  rintro μ ρ w ⟨i, ys, hμ, hi, hp, hx, hu, hρ, hw⟩
  have hl := hp.length_eq
  rw [hρ.eq]
  clear hρ
  repeat (first | refine byW ?_ | (refine byV ?_; intro w hw))
  refine W_cond rfl (fun h => ?_) (fun h => ?_)
  · have h : (decide ((2 * (i : Int) + 1) ≥ m) || decide ((2 * (i : Int) + 1) < 0)) = true := h
    have hs : m ≤ 2 * i + 1 := by
      rcases Bool.or_eq_true_iff.1 h with h | h
      · have := of_decide_eq_true h; omega
      · have := of_decide_eq_true h; omega
    repeat (first | refine byW ?_ | (refine byV ?_; intro w hw))
    exact ⟨_, rfl, _, rfl, ys, hp, hx, down_stop hu (fun k k0 kn kp => by omega), hw⟩
  · have h : (decide ((2 * (i : Int) + 1) ≥ m) || decide ((2 * (i : Int) + 1) < 0)) = false := h
    have hs : 2 * i + 1 < m := by
      have := of_decide_eq_false (Bool.or_eq_false_iff.1 h).1; omega
    clear h
    iterate 7 (first | refine byW ?_ | (refine byV ?_; intro w hw))
    refine W_cutT (fun ρ w => ∃ j : Nat, j < m ∧ 0 < j ∧ (j - 1) / 2 = i ∧ (∀ k, 0 < k → k < m → (k - 1) / 2 = i → hk ys j ≤ hk ys k) ∧ Has ρ [(0, hpI b), (1, .int .i64 0), (2, .int .i64 m), (6, .bool false), (7, .int .i64 i), (9, .int .i64 j)] ∧ Wd Γ (hpB b (.slice a n c) :: hpO a n c ys :: S) w) ?_ ?_
    · repeat (first | refine byW ?_ | (refine byV ?_; intro w hw))
      refine lInvPG (c := decide (2 * (i : Int) + 1 + 1 < m)) (fun hc => ps_less (xs := ys) (i := 2 * i + 2) (j := 2 * i + 1) (by have := of_decide_eq_true hc; omega) (by omega)) (hp_load' hw) ?_
      intro w hw
      have hw : Wd Γ (hpB b (.slice a n c) :: hpO a n c ys :: S) w := hw
      repeat (first | refine byW ?_ | (refine byV ?_; intro w hw))
      refine W_cond rfl (fun h => ?_) (fun h => ?_)
      · have h : (decide (2 * (i : Int) + 1 + 1 < m) && decide (hk ys (2 * i + 2) < hk ys (2 * i + 1))) = true := h
        obtain ⟨h1, h2⟩ := Bool.and_eq_true_iff.1 h
        have h1 := of_decide_eq_true h1
        have h2 := of_decide_eq_true h2
        repeat (first | refine byW ?_ | (refine byV ?_; intro w hw))
        refine ⟨2 * i + 2, by omega, by omega, by omega, fun k k0 kn kp => ?_, ⟨rfl, rfl, rfl, rfl, rfl, rfl, trivial⟩, hw⟩
        rcases (show k = 2 * i + 1 ∨ k = 2 * i + 2 by omega) with rfl | rfl
        · omega
        · omega
      · have h : (decide (2 * (i : Int) + 1 + 1 < m) && decide (hk ys (2 * i + 2) < hk ys (2 * i + 1))) = false := h
        repeat (first | refine byW ?_ | (refine byV ?_; intro w hw))
        refine ⟨2 * i + 1, by omega, by omega, by omega, fun k k0 kn kp => ?_, ⟨rfl, rfl, rfl, rfl, rfl, rfl, trivial⟩, hw⟩
        rcases (show k = 2 * i + 1 ∨ k = 2 * i + 2 by omega) with rfl | rfl
        · omega
        · rw [decide_eq_true (show 2 * (i : Int) + 1 + 1 < m by omega), Bool.true_and] at h
          have := of_decide_eq_false h
          omega
    · clear hw
      rintro ρ w ⟨j, hjm, hj0, hjp, hmin, hρ, hw⟩
      rw [hρ.eq]
      clear hρ
      repeat (first | refine byW ?_ | (refine byV ?_; intro w hw))
      refine lInvP (ps_less (xs := ys) (i := j) (j := i) (by omega) (by omega)) (hp_load' hw) ?_
      intro w hw
      have hw : Wd Γ (hpB b (.slice a n c) :: hpO a n c ys :: S) w := hw
      repeat (first | refine byW ?_ | (refine byV ?_; intro w hw))
      refine W_cond rfl (fun h => ?_) (fun h => ?_)
      · have h : (!decide (hk ys j < hk ys i)) = true := h
        have h : ¬ hk ys j < hk ys i := by simpa using h
        repeat (first | refine byW ?_ | (refine byV ?_; intro w hw))
        refine ⟨_, rfl, _, rfl, ys, hp, hx, down_stop hu (fun k k0 kn kp => ?_), hw⟩
        have := hmin k k0 kn kp
        omega
      · have h : (!decide (hk ys j < hk ys i)) = false := h
        have h : hk ys j < hk ys i := by simpa using h
        repeat (first | refine byW ?_ | (refine byV ?_; intro w hw))
        refine lInvV (hp_load' hw) ((swap_any (i := i) (j := j) (by omega) (by omega) (Wd.ps [1] hw)).mono fun e w hh => ?_)
        obtain ⟨rfl, hw⟩ := hh
        refine ⟨_, rfl, ?_⟩
        have hw : Wd Γ (hpB b (.slice a n c) :: hpO a n c (swp ys i j) :: S) w := Wd.ps [1] hw
        repeat (first | refine byW ?_ | (refine byV ?_; intro w hw))
        refine ⟨m - j, by omega, j, swp ys i j, rfl, by omega, (swp_perm (by omega) (by omega)).trans hp, ?_, down_step hu (by omega) hjm hj0 hjp h hmin, ⟨rfl, rfl, rfl, rfl, rfl, trivial⟩, hw⟩
        rw [swp_get (by omega) (by omega), if_neg (by omega), if_neg (by omega)]; exact hx

/-- Pop takes the last place. -/
theorem popm_any {Γ : Gho} {S : List Res} {w : World} {b : Nat} {a : Option Addr} {n c : Nat} {xs : List Pl} {m : Nat} {x : Pl} (hN : xs.length ≤ 1000000) (hm : m + 1 = xs.length) (hx : xs[m]? = some x) (hw : Wd Γ (hpB b (.slice a n c) :: hpO a n c xs :: S) w) :
    Calls Tryz.prog 150 #[.pointer (some ⟨b, 0, none⟩)] w fun e w' => e = .returned (.iface 109 (.agg (plV x).toArray)) ∧ ∃ v', Wd Γ (hpB b v' :: .own v' 109 2 ((xs.take m).map plV) :: S) w' := by
  obtain ⟨a', n', c', e, hn, hnc, -⟩ := hw.own_shape (i := 1) rfl
  cases e
  simp only [List.length_map] at hn
  have hx' : xs[((n : Int) - 1).toNat]? = some x := by rw [show ((n : Int) - 1).toNat = m from by omega]; exact hx
  refine calls_of_W Tryz.func150 rfl rfl ?_
  repeat (first | refine byW ?_ | (refine byV ?_; intro w hw))
  refine W_mixed [hpB b (.slice a n c), hpO a n c xs] [fun _ => [], fun _ => S] [[],[],[],[],[],[],[],[],[],[],[0],[0]] [[],[],[],[],[],[],[],[],[],[],[0],[0]] [[3], []] (by have := hw; simpa [List.range, List.range.loop, ML] using this) ?_
  repeat (first | refine mY ?_ | refine mP ?_ | refine mPg ?_)
  refine mAlloc ?_
  refine mStoreAt ?_
  refine mEnd fun w g hw => ?_
  have hw : Wd Γ (hpB b (.slice a n c) :: hpO a n c xs :: atP (g 3) _ :: (S ++ [])) w := hw
  rw [List.append_nil] at hw
  obtain ⟨b3, hg3, hw⟩ := (Wd.ps [2] hw).openAt
  have hw : Wd Γ (.blk b3 (.cells (plV x).toArray 109) :: hpB b (.slice a n c) :: hpO a n c xs :: S) w := hw
  refine W_has (l := [(0, .pointer (some ⟨b, 0, none⟩)), (3, .pointer (some ⟨b3, 0, none⟩))]) ⟨rfl, hg3, trivial⟩ fun ρ' hρ' => ?_
  rw [hρ'.eq]
  clear hρ' hg3
  repeat (first | refine byW ?_ | (refine byV ?_; intro w hw))
  refine W_mix1 [.blk b3 (.cells (plV x).toArray 109)] _ [[],[],[],[],[],[],[],[],[],[],[],[0]] [[],[],[],[0],[],[],[0],[],[],[],[],[0]] hw ?_
  repeat (first | refine mY ?_ | refine mP ?_ | refine mPg ?_)
  refine mStoreC (j := 0) (vs := [.slice a ((n : Int) - 1).toNat c]) ?_
  repeat (first | refine mY ?_ | refine mP ?_ | refine mEndAt ?_ | refine mEnd0 ?_ | refine mEnd ?_)
  intro w hw
  rw [show ((n : Int) - 1).toNat = m from by omega] at hw
  have hw : Wd Γ (.blk b3 (.cells (plV x).toArray 109) :: ((hpB b (.slice a m c) :: hpO a n c xs :: S) ++ [])) w := hw
  rw [List.append_nil] at hw
  have hw := Wd.own_take (i := 2) (m := m) hw rfl (by omega)
  rw [← List.map_take] at hw
  have hw : Wd Γ (.blk b3 (.cells (plV x).toArray 109) :: hpB b (.slice a m c) :: hpO a m c (xs.take m) :: S) w := hw
  repeat (first | refine byW ?_ | (refine byV ?_; intro w hw))
  refine lY (v := .iface 109 (.agg (plV x).toArray)) ?_ (hy := y_mkI rfl)
  repeat (first | refine byW ?_ | (refine byV ?_; intro w hw))
  exact ⟨_, rfl, rfl, _, hw.drop⟩

/-- heap.Push: the place x is added to a heap. -/
theorem hpush_any {Γ : Gho} {S : List Res} {w : World} {b : Nat} {v : Value} {xs : List Pl} {x : Pl} (hN : xs.length + 1 ≤ 1000000) (hh : HeapN xs xs.length) (hw : Wd Γ (hpB b v :: .own v 109 2 (xs.map plV) :: S) w) :
    Calls Tryz.prog 142 #[hpI b, .iface 109 (.agg (plV x).toArray)] w fun e w' => e = .returned (.tuple #[]) ∧ ∃ v' ys, ys.Perm (x :: xs) ∧ HeapN ys ys.length ∧ Wd Γ (hpB b v' :: .own v' 109 2 (ys.map plV) :: S) w' := by
  refine calls_of_W Tryz.func142 rfl rfl ?_
  repeat (first | refine byW ?_ | (refine byV ?_; intro w hw))
  refine lInv ((push_any (by omega) hw).mono fun e w hh' => ?_)
  obtain ⟨rfl, v', hw⟩ := hh'
  obtain ⟨a, n, c, rfl, hn, hnc, -⟩ := hw.own_shape (i := 1) rfl
  simp only [List.length_map, List.length_append, List.length_singleton] at hn
  refine ⟨_, rfl, ?_⟩
  repeat (first | refine byW ?_ | (refine byV ?_; intro w hw))
  refine lInvV (hp_load' hw) ((len_any hw).mono fun e w hh' => ?_)
  obtain ⟨rfl, hw⟩ := hh'
  refine ⟨_, rfl, ?_⟩
  have e1 : ((n : Int) - 1) = (xs.length : Nat) := by omega
  repeat (first | refine byW ?_ | (refine byV ?_; intro w hw))
  rw [e1]
  refine lCall ((up_any (j := xs.length) (by simp; omega) (by simp) (up_init hh) hw).mono fun e w hh' => ?_)
  obtain ⟨rfl, ys, hp, hy, hw⟩ := hh'
  refine ⟨_, rfl, ?_⟩
  repeat (first | refine byW ?_ | (refine byV ?_; intro w hw))
  exact ⟨_, rfl, rfl, _, ys, hp.trans List.perm_append_comm, hy, hw⟩

/-- heap.Pop: a least place is taken out. -/
theorem hpop_any {Γ : Gho} {S : List Res} {w : World} {b : Nat} {v : Value} {xs : List Pl} (hN : xs.length ≤ 1000000) (h0 : xs ≠ []) (hh : HeapN xs xs.length) (hw : Wd Γ (hpB b v :: .own v 109 2 (xs.map plV) :: S) w) :
    Calls Tryz.prog 143 #[hpI b] w fun e w' => ∃ x v' ys, e = .returned (.iface 109 (.agg (plV x).toArray)) ∧ (x :: ys).Perm xs ∧ (∀ y ∈ xs, x.2 ≤ y.2) ∧ HeapN ys ys.length ∧ Wd Γ (hpB b v' :: .own v' 109 2 (ys.map plV) :: S) w' := by
  obtain ⟨a, n, c, rfl, hn, hnc, -⟩ := hw.own_shape (i := 1) rfl
  simp only [List.length_map] at hn
  obtain ⟨m, hm⟩ : ∃ m, xs.length = m + 1 := ⟨xs.length - 1, by have := List.length_pos_iff.2 h0; omega⟩
  obtain ⟨x, hx⟩ := get_lt (l := xs) (k := 0) (by omega)
  have e1 : ((n : Int) - 1) = (m : Nat) := by omega
  refine calls_of_W Tryz.func143 rfl rfl ?_
  repeat (first | refine byW ?_ | (refine byV ?_; intro w hw))
  refine lInvV (hp_load' hw) ((len_any hw).mono fun e w hh' => ?_)
  obtain ⟨rfl, hw⟩ := hh'
  refine ⟨_, rfl, ?_⟩
  repeat (first | refine byW ?_ | (refine byV ?_; intro w hw))
  rw [e1]
  refine lInvV (hp_load' hw) ((swap_any (i := 0) (j := m) (by omega) (by omega) (Wd.ps [1] hw)).mono fun e w hh' => ?_)
  obtain ⟨rfl, hw⟩ := hh'
  refine ⟨_, rfl, ?_⟩
  have hw : Wd Γ (hpB b (.slice a n c) :: hpO a n c (swp xs 0 m) :: S) w := Wd.ps [1] hw
  repeat (first | refine byW ?_ | (refine byV ?_; intro w hw))
  refine lCall ((down_any (m := m) (by rw [swp_len]; omega) (by rw [swp_len]; omega) (down_init hh hm) hw).mono fun e w hh' => ?_)
  obtain ⟨r, rfl, ys, hp, hy, hz, hw⟩ := hh'
  rw [swp_get (by omega) (by omega), if_pos rfl, hx] at hy
  have hl := hp.length_eq
  rw [swp_len] at hl
  refine ⟨_, rfl, ?_⟩
  repeat (first | refine byW ?_ | (refine byV ?_; intro w hw))
  refine lInv ((popm_any (m := m) (by omega) (by omega) hy hw).mono fun e w hh' => ?_)
  obtain ⟨rfl, v', hw⟩ := hh'
  refine ⟨_, rfl, ?_⟩
  repeat (first | refine byW ?_ | (refine byV ?_; intro w hw))
  exact ⟨_, rfl, x, v', ys.take m, rfl, (perm_take hp (by omega) hy).trans (swp_perm (by omega) (by omega)), heap_min hh hx, heap_take hz (by omega), hw⟩

/-- The queue's methods. -/
theorem qadd_any {Γ : Gho} {S : List Res} {w : World} {b : Nat} {v : Value} {xs : List Pl} {n d : Int} (hN : xs.length + 1 ≤ 1000000) (hh : HeapN xs xs.length) (hw : Wd Γ (hpB b v :: .own v 109 2 (xs.map plV) :: S) w) :
    Calls Tryz.prog 139 #[.pointer (some ⟨b, 0, none⟩), .int .i64 n, .int .i64 d] w fun e w' => e = .returned (.tuple #[]) ∧ ∃ v' ys, ys.Perm ((n, d) :: xs) ∧ HeapN ys ys.length ∧ Wd Γ (hpB b v' :: .own v' 109 2 (ys.map plV) :: S) w' := by
  refine calls_of_W Tryz.func139 rfl rfl ?_
  repeat (first | refine byW ?_ | (refine byV ?_; intro w hw))
  refine lY (v := hpI b) ?_ (hy := y_mkI rfl)
  repeat (first | refine byW ?_ | (refine byV ?_; intro w hw))
  refine lY (v := .iface 109 (.agg (plV (n, d)).toArray)) ?_ (hy := y_mkI rfl)
  repeat (first | refine byW ?_ | (refine byV ?_; intro w hw))
  refine lCall ((hpush_any hN hh hw).mono fun e w hh' => ?_)
  obtain ⟨rfl, h⟩ := hh'
  refine ⟨_, rfl, ?_⟩
  repeat (first | refine byW ?_ | (refine byV ?_; intro w hw))
  exact ⟨_, rfl, rfl, h⟩
theorem qempty_any {Γ : Gho} {S : List Res} {w : World} {b : Nat} {v : Value} {xs : List Pl} (hw : Wd Γ (hpB b v :: .own v 109 2 (xs.map plV) :: S) w) :
    Calls Tryz.prog 140 #[.pointer (some ⟨b, 0, none⟩)] w fun e w' => e = .returned (.bool (decide ((xs.length : Int) = 0))) ∧ Wd Γ (hpB b v :: .own v 109 2 (xs.map plV) :: S) w' := by
  obtain ⟨a, n, c, rfl, hn, hnc, -⟩ := hw.own_shape (i := 1) rfl
  simp only [List.length_map] at hn
  subst hn
  refine calls_of_W Tryz.func140 rfl rfl ?_
  repeat (first | refine byW ?_ | (refine byV ?_; intro w hw))
  exact ⟨_, rfl, rfl, hw⟩
theorem qtake_any {Γ : Gho} {S : List Res} {w : World} {b : Nat} {v : Value} {xs : List Pl} (hN : xs.length ≤ 1000000) (h0 : xs ≠ []) (hh : HeapN xs xs.length) (hw : Wd Γ (hpB b v :: .own v 109 2 (xs.map plV) :: S) w) :
    Calls Tryz.prog 141 #[.pointer (some ⟨b, 0, none⟩)] w fun e w' => ∃ (x : Pl) (v' : Value) (ys : List Pl), e = .returned (.tuple #[.int .i64 x.1, .int .i64 x.2]) ∧ (x :: ys).Perm xs ∧ (∀ y ∈ xs, x.2 ≤ y.2) ∧ HeapN ys ys.length ∧ Wd Γ (hpB b v' :: .own v' 109 2 (ys.map plV) :: S) w' := by
  refine calls_of_W Tryz.func141 rfl rfl ?_
  repeat (first | refine byW ?_ | (refine byV ?_; intro w hw))
  refine lY (v := hpI b) ?_ (hy := y_mkI rfl)
  repeat (first | refine byW ?_ | (refine byV ?_; intro w hw))
  refine lCall ((hpop_any hN h0 hh hw).mono fun e w hh' => ?_)
  obtain ⟨x, v', ys, rfl, h1, h2, h3, hw⟩ := hh'
  refine ⟨_, rfl, ?_⟩
  repeat (first | refine byW ?_ | (refine byV ?_; intro w hw))
  refine lY (v := .agg (plV x).toArray) ?_ (hy := y_assert Tryz.underlying109 rfl)
  refine lAlloc ?_
  intro b4 w hw
  refine lStore ?_
  intro w hw
  have hw : Wd Γ (.blk b4 (.cells (plV x).toArray 109) :: hpB b v' :: .own v' 109 2 (ys.map plV) :: S) w := hw
  repeat (first | refine byW ?_ | (refine byV ?_; intro w hw))
  refine W_quiet (by kernel_rfl) (by kernel_rfl) hw ?_
  repeat (first | refine Q_nil ?_ | (apply Q_plain; first | (apply Q_go; first | refine qP ?_ | refine qPg ?_) | refine qY ?_) | (apply Q_guarded; first | (apply Q_go; first | refine qPG ?_ | refine qPgG ?_) | refine qG ?_))
  intro w hw
  repeat (first | refine byW ?_ | (refine byV ?_; intro w hw))
  exact ⟨_, rfl, x, v', ys, rfl, h1, h2, h3, hw.drop⟩
end Go.Proofs.YteiijmclobggjaaGreat
end
/- The neighbours of each node. -/
section
open Go Mk
namespace Go.Proofs.YteiijmclobggjaaGreat
set_option maxHeartbeats 4000000
attribute [local irreducible] Calls
def nbrL (ls : List LinkT) (x : Int) : List Pl := ls.flatMap fun l => (if l.A = x then [(l.B, l.Latency)] else []) ++ (if l.B = x then [(l.A, l.Latency)] else [])
def addN (N : Int → List Pl) (a : Int) (p : Pl) : Int → List Pl := fun x => if a = x then N x ++ [p] else N x
theorem nbrL_step {ls : List LinkT} {k : Nat} {l : LinkT} (h : ls[k]? = some l) : addN (addN (nbrL (ls.take k)) l.A (l.B, l.Latency)) l.B (l.A, l.Latency) = nbrL (ls.take (k + 1)) := by
  funext x
  rw [take_succ_of h]
  unfold addN nbrL
  simp only [List.flatMap_append, List.flatMap_cons, List.flatMap_nil, List.append_nil]
  by_cases h1 : l.A = x <;> by_cases h2 : l.B = x <;> simp [h1, h2]

/-- A map from numbers to slices of places that are owned. -/
abbrev adjM (bm : Nat) (l : List (Int × Value)) : Res := Res.mpT Tryz.prog 3 (id : Value → Value) bm l
def plO (N : Int → List Pl) (e : Int × Value) : Res := .own e.2 109 2 ((N e.1).map plV)
def AdjS (Γ : Gho) (S : List Res) (bm : Nat) (N : Int → List Pl) (w : World) : Prop :=
  ∃ l : List (Int × Value), (l.map (·.1)).Nodup ∧ (∀ x, aGet l x = none → N x = []) ∧ Wd Γ (adjM bm l :: (l.map (plO N) ++ S)) w
def restL (l : List (Int × Value)) (a : Int) : List (Int × Value) := l.filter fun p => !decide (p.1 = a)
def zeroOr (l : List (Int × Value)) (a : Int) (v : Value) : Prop := aGet l a = some v ∨ (aGet l a = none ∧ v = .slice none 0 0)

theorem adj_open {Γ : Gho} {S : List Res} {bm : Nat} {N : Int → List Pl} {w : World} {l : List (Int × Value)} (hn : (l.map (·.1)).Nodup) (h0 : ∀ x, aGet l x = none → N x = []) (hw : Wd Γ (adjM bm l :: (l.map (plO N) ++ S)) w) (a : Int) :
    ∃ v, zeroOr l a v ∧ Wd Γ (adjM bm l :: .own v 109 2 ((N a).map plV) :: ((restL l a).map (plO N) ++ S)) w := by
  cases hg : aGet l a with
  | some v =>
    refine ⟨v, .inl hg, hw.perm (List.Perm.cons _ ?_)⟩
    exact ((aGet_perm hn hg).map (plO N)).append_right S
  | none =>
    refine ⟨.slice none 0 0, .inr ⟨hg, rfl⟩, ?_⟩
    have h1 := (Wd.addNil (a := none) (E := 109) (sz := 2) hw).ps [1]
    rw [h0 a hg]
    have : restL l a = l := aGet_none_filter hg
    rw [this]
    exact h1
theorem adj_close {Γ : Gho} {S : List Res} {bm : Nat} {N : Int → List Pl} {w : World} {l : List (Int × Value)} {a : Int} {p : Pl} {v : Value} (hn : (l.map (·.1)).Nodup) (h0 : ∀ x, aGet l x = none → N x = []) (hw : Wd Γ (adjM bm (aSet l a v) :: .own v 109 2 ((N a).map plV ++ [plV p]) :: ((restL l a).map (plO N) ++ S)) w) :
    AdjS Γ S bm (addN N a p) w := by
  refine ⟨aSet l a v, aSet_keys hn a v, fun x hx => ?_, hw.perm (List.Perm.cons _ ?_)⟩
  · rw [aGet_aSet] at hx
    by_cases e : a = x
    · rw [if_pos e] at hx; cases hx
    · rw [if_neg e] at hx
      unfold addN; rw [if_neg e]; exact h0 x hx
  · have h1 : (restL l a).map (plO N) = (restL l a).map (plO (addN N a p)) := List.map_congr_left fun e he => by
      have := (List.mem_filter.1 he).2
      unfold plO addN
      rw [if_neg (by intro h; simp [h] at this)]
    have h2 : Res.own v 109 2 ((N a).map plV ++ [plV p]) = plO (addN N a p) (a, v) := by
      unfold plO addN; simp
    rw [h1, h2]
    exact (((aSet_perm hn a v).map (plO (addN N a p))).append_right S).symm
theorem adj_front {Γ : Gho} {S R : List Res} {A B b : Res} {w : World} (hw : Wd Γ (A :: B :: (R ++ b :: S)) w) : Wd Γ (b :: A :: B :: (R ++ S)) w :=
  hw.perm (((List.perm_middle.cons _).cons _).trans (((List.Perm.swap _ _ _).cons _).trans (.swap _ _ _)))
theorem adj_back {Γ : Gho} {S R : List Res} {A B b : Res} {w : World} (hw : Wd Γ (b :: A :: B :: (R ++ S)) w) : Wd Γ (A :: B :: (R ++ b :: S)) w :=
  hw.perm (((List.perm_middle.cons _).cons _).trans (((List.Perm.swap _ _ _).cons _).trans (.swap _ _ _))).symm
theorem nbr_len {ls : List LinkT} {x : Int} : (nbrL ls x).length ≤ 2 * ls.length := by
  induction ls with
  | nil => simp [nbrL]
  | cons l ls ih =>
    have : nbrL (l :: ls) x = ((if l.A = x then [(l.B, l.Latency)] else []) ++ (if l.B = x then [(l.A, l.Latency)] else [])) ++ nbrL ls x := by simp [nbrL]
    rw [this]
    simp only [List.length_append, List.length_cons]
    split <;> split <;> simp <;> omega
theorem addN_len {N : Int → List Pl} {a x : Int} {p : Pl} : (addN N a p x).length ≤ (N x).length + 1 := by
  unfold addN; split <;> simp
theorem AdjS.drop {Γ : Gho} {S : List Res} {b : Res} {bm : Nat} {N : Int → List Pl} {w : World} (h : AdjS Γ (b :: S) bm N w) : AdjS Γ S bm N w := by
  obtain ⟨l, h1, h2, hw⟩ := h
  exact ⟨l, h1, h2, (hw.perm ((List.perm_middle.cons _).trans (.swap _ _ _))).drop⟩
theorem y_lookupZ {Γ : Gho} {S : List Res} {w : World} {ρ : Fr} {d : Option Tmp} {T ty ET : TypeId} {pos : String} {es : Array Edge} {g : Option (Nat × Bool)} {x y : Operand} {l : List (Int × Value)} {a : Int} {v : Value} {bm i : Nat} [hM : TMap Tryz.prog T 3 ET] [hz : TZV Tryz.prog ET (.slice none 0 0)] (hw : Wd Γ S w) (hv : zeroOr l a v) (hi : S[i]? = some (adjM bm l)) (hx : ev ρ x = .map (some bm)) (hy : ev ρ y = .int .i64 a) :
    Mk.Yields Tryz.prog ⟨d, .lookup T x y false, ty, pos, es, g⟩ ρ w v := by
  rcases hv with hv | ⟨hv, rfl⟩
  · exact y_lookup_some (f := (id : Value → Value)) hw hx hy hi hv false
  · exact y_lookup_none (f := (id : Value → Value)) hw hx hy hi hv false

theorem neighbours_any {Γ : Gho} {u : Value} {H : HwT} [hh : HwR Γ u H] (hc : H.Links.length ≤ 1000) {S : List Res} {w : World} (hw : Wd Γ S w) :
    Calls Tryz.prog 55 #[u] w fun e w' => ∃ bm, e = .returned (.map (some bm)) ∧ AdjS Γ S bm (nbrL H.Links) w' := by
  obtain ⟨a1, n1, c1, a2, n2, c2, a3, n3, c3, a4, n4, c4, a5, n5, c5, cs, rfl, hcs, hok, hsz, r1, r2, r3, r4, r5⟩ := hh.h
  obtain ⟨hn3, hm3, hx3⟩ := rep_facts r3
  simp only [List.length_map] at hn3
  refine calls_of_W Tryz.func55 rfl rfl ?_
  repeat (first | refine byW ?_ | (refine byV ?_; intro w hw))
  refine lBox ?_
  intro b1 w hw
  repeat (first | refine byW ?_ | (refine byV ?_; intro w hw))
  refine L_step rfl rfl (s_makeMap (K := 3) (α := Int) (f := (id : Value → Value)) hw fun bm w hw => ?_)
  have hw := hw.ps [1]
  have hw : Wd Γ (.blk b1 (.cells #[.string H.Name, .slice a1 n1 c1, .slice a2 n2 c2, .slice a3 n3 c3, .slice a4 n4 c4, .slice a5 n5 c5] 28) :: adjM bm [] :: S) w := hw
  repeat (first | refine byW ?_ | (refine byV ?_; intro w hw))
  refine W_loop (fun μ ρ w => ∃ (k : Nat), μ + k = n3 ∧ Has ρ [(1, .pointer (some ⟨b1, 0, none⟩)), (3, .map (some bm)), (8, .slice a3 n3 c3), (9, .int .i64 n3), (10, .int .i64 k)] ∧ AdjS Γ (.blk b1 (.cells #[.string H.Name, .slice a1 n1 c1, .slice a2 n2 c2, .slice a3 n3 c3, .slice a4 n4 c4, .slice a5 n5 c5] 28) :: S) bm (nbrL (H.Links.take k)) w) n3 ⟨0, by omega, ⟨rfl, rfl, rfl, rfl, rfl, trivial⟩, [], by simp, fun _ _ => rfl, hw.ps [1]⟩ ?_
  clear hw
  rintro μ ρ w ⟨k, hk, hρ, l, hnd, h0, hw⟩
  rw [hρ.eq]
  clear hρ
  repeat (first | refine byW ?_ | (refine byV ?_; intro w hw))
  refine W_cond rfl (fun h => ?_) (fun h => ?_)
  · have hkn : k < n3 := by have := of_decide_eq_true h; omega
    clear h
    obtain ⟨x, hx⟩ := get_lt (l := H.Links) (k := k) (by omega)
    repeat (first | refine byW ?_ | (refine byV ?_; intro w hw))
    refine lAlloc ?_
    intro b5 w hw
    refine lStore ?_
    intro w hw
    have hw : Wd Γ (.blk b5 (.cells (enc x).toArray 56) :: adjM bm l :: (l.map (plO (nbrL (H.Links.take k))) ++ (.blk b1 (.cells #[.string H.Name, .slice a1 n1 c1, .slice a2 n2 c2, .slice a3 n3 c3, .slice a4 n4 c4, .slice a5 n5 c5] 28) :: S))) w := hw
    replace hw := hw.perm ((List.Perm.swap _ _ _).trans (List.Perm.cons _ List.perm_middle.symm))
    obtain ⟨v, hv, hw⟩ := adj_open hnd h0 hw x.A
    obtain ⟨a0, m0, c0, rfl, hm0, hmc0, -⟩ := hw.own_shape (i := 1) rfl
    simp only [List.length_map] at hm0
    have hlen : m0 ≤ 4000 := by rw [hm0]; have := nbr_len (ls := H.Links.take k) (x := x.A); simp at this; omega
    have hw := adj_front hw
    repeat (first | refine byW ?_ | (refine byV ?_; intro w hw))
    refine W_mix2 [.blk b5 (.cells (enc x).toArray 56)] _ [[],[],[],[],[],[],[],[],[],[],[],[],[1],[0],[0]] [[],[],[],[],[],[],[0],[],[],[],[],[],[1],[0,1],[0]] [[27], [26]] hw ?_
    repeat (first | refine mY ?_ | refine mP ?_ | refine mPg ?_)
    refine mY (v := .slice a0 m0 c0) ?_ (hy := fun Y w g hw => y_lookupZ hw hv (i := 1) rfl rfl rfl)
    repeat (first | refine mY ?_ | refine mP ?_ | refine mPg ?_)
    refine mY (v := .agg (plV (x.B, x.Latency)).toArray) ?_ (hy := fun Y w g hw => y_build rfl)
    refine mBuild [plV (x.B, x.Latency)] ?_
    refine mApp (j := 1) ?_
    refine mPutV (j := 0) ?_
    refine mEnd fun w g hw => ?_
    have hw := Wd.dropEnd hw
    have hw : Wd Γ (.blk b5 (.cells (enc x).toArray 56) :: adjM bm (aSet l x.A (g 27)) :: .own (g 27) 109 2 ((nbrL (H.Links.take k) x.A).map plV ++ [plV (x.B, x.Latency)]) :: ((restL l x.A).map (plO (nbrL (H.Links.take k))) ++ .blk b1 (.cells #[.string H.Name, .slice a1 n1 c1, .slice a2 n2 c2, .slice a3 n3 c3, .slice a4 n4 c4, .slice a5 n5 c5] 28) :: S)) w := hw
    have hA := adj_close hnd h0 (adj_back hw)
    generalize g 27 = gg at *
    obtain ⟨l, hnd, h0, hw⟩ := hA
    obtain ⟨v, hv, hw⟩ := adj_open hnd h0 hw x.B
    obtain ⟨a0, m0, c0, rfl, hm0, hmc0, -⟩ := hw.own_shape (i := 1) rfl
    simp only [List.length_map] at hm0
    have hlen : m0 ≤ 4000 := by rw [hm0]; have := addN_len (N := nbrL (H.Links.take k)) (a := x.A) (p := (x.B, x.Latency)) (x := x.B) ; have := nbr_len (ls := H.Links.take k) (x := x.B); simp at this; omega
    have hw := adj_front hw
    repeat (first | refine byW ?_ | (refine byV ?_; intro w hw))
    refine W_mix2 [.blk b5 (.cells (enc x).toArray 56)] _ [[],[],[],[],[],[],[],[],[],[],[],[],[1],[0],[0]] [[],[],[],[],[],[],[0],[],[],[],[],[],[1],[0,1],[0]] [[41], [40]] hw ?_
    repeat (first | refine mY ?_ | refine mP ?_ | refine mPg ?_)
    refine mY (v := .slice a0 m0 c0) ?_ (hy := fun Y w g hw => y_lookupZ hw hv (i := 1) rfl rfl rfl)
    repeat (first | refine mY ?_ | refine mP ?_ | refine mPg ?_)
    refine mY (v := .agg (plV (x.A, x.Latency)).toArray) ?_ (hy := fun Y w g hw => y_build rfl)
    refine mBuild [plV (x.A, x.Latency)] ?_
    refine mApp (j := 1) ?_
    refine mPutV (j := 0) ?_
    refine mEnd fun w g hw => ?_
    have hw := Wd.dropEnd hw
    have hw : Wd Γ (.blk b5 (.cells (enc x).toArray 56) :: adjM bm (aSet l x.B (g 41)) :: .own (g 41) 109 2 ((addN (nbrL (H.Links.take k)) x.A (x.B, x.Latency) x.B).map plV ++ [plV (x.A, x.Latency)]) :: ((restL l x.B).map (plO (addN (nbrL (H.Links.take k)) x.A (x.B, x.Latency))) ++ .blk b1 (.cells #[.string H.Name, .slice a1 n1 c1, .slice a2 n2 c2, .slice a3 n3 c3, .slice a4 n4 c4, .slice a5 n5 c5] 28) :: S)) w := hw
    have hA := adj_close hnd h0 (adj_back hw)
    generalize g 41 = gg at *
    have hA := AdjS.drop hA
    rw [nbrL_step hx] at hA
    repeat (first | refine byW ?_ | (refine byV ?_; intro w hw))
    exact ⟨μ - 1, by omega, k + 1, by omega, ⟨rfl, rfl, rfl, rfl, rfl, trivial⟩, hA⟩
  · have hkn : ¬ k < n3 := by have := of_decide_eq_false h; omega
    have hA : AdjS Γ (.blk b1 (.cells #[.string H.Name, .slice a1 n1 c1, .slice a2 n2 c2, .slice a3 n3 c3, .slice a4 n4 c4, .slice a5 n5 c5] 28) :: S) bm (nbrL (H.Links.take k)) w := ⟨l, hnd, h0, hw⟩
    rw [List.take_of_length_le (by omega)] at hA
    repeat (first | refine byW ?_ | (refine byV ?_; intro w hw))
    exact ⟨_, rfl, bm, rfl, hA.drop⟩
end Go.Proofs.YteiijmclobggjaaGreat
end
/- Shortest ways: what the search keeps true. -/
section
namespace Go.Proofs.YteiijmclobggjaaGreat

/-- There is a way from s to x of length d. -/
inductive Way (nb : Int → List Pl) (s : Int) : Int → Int → Prop
  | refl : Way nb s s 0
  | step {x d : Int} {q : Pl} : Way nb s x d → q ∈ nb x → Way nb s q.1 (d + q.2)
def oat (O : List Int) (x : Int) : Int := O.getD x.toNat (-1)
/-- d is the distance of x from s, or -1. -/
def Dst (nb : Int → List Pl) (s x d : Int) : Prop := (0 ≤ d ∧ Way nb s x d ∧ ∀ d', Way nb s x d' → d ≤ d') ∨ (d = -1 ∧ ∀ d', ¬ Way nb s x d')
theorem Dst.uniq {nb : Int → List Pl} {s x d e : Int} (h : Dst nb s x d) (k : Dst nb s x e) : d = e := by
  rcases h with ⟨h0, h1, h2⟩ | ⟨h1, h2⟩ <;> rcases k with ⟨k0, k1, k2⟩ | ⟨k1, k2⟩
  · have := h2 _ k1; have := k2 _ h1; omega
  · exact (k2 _ h1).elim
  · exact (h2 _ k1).elim
  · rw [h1, k1]
structure NbOk (nb : Int → List Pl) (s L : Int) : Prop where
  rng : ∀ x, ∀ q ∈ nb x, 0 ≤ q.1 ∧ q.1 < 64 ∧ 0 ≤ q.2 ∧ q.2 ≤ L
  st : 0 ≤ s ∧ s < 64
theorem Way.nonneg {nb : Int → List Pl} {s L : Int} (hn : NbOk nb s L) {x d : Int} (h : Way nb s x d) : 0 ≤ d := by
  induction h with
  | refl => omega
  | step _ hq ih => have := hn.rng _ _ hq; omega
theorem Way.rng {nb : Int → List Pl} {s L : Int} (hn : NbOk nb s L) {x d : Int} (h : Way nb s x d) : 0 ≤ x ∧ x < 64 := by
  cases h with
  | refl => exact hn.st
  | step _ hq => have := hn.rng _ _ hq; omega

structure Dij (nb : Int → List Pl) (s : Int) (O : List Int) (xs : List Pl) : Prop where
  len : O.length = 64
  neg : ∀ x, oat O x = -1 ∨ 0 ≤ oat O x
  way : ∀ p ∈ xs, Way nb s p.1 p.2
  done : ∀ x, 0 ≤ x → x < 64 → 0 ≤ oat O x → Way nb s x (oat O x) ∧ ∀ d, Way nb s x d → oat O x ≤ d
  closed : ∀ x, 0 ≤ x → x < 64 → 0 ≤ oat O x → ∀ q ∈ nb x, 0 ≤ oat O q.1 ∨ (q.1, oat O x + q.2) ∈ xs
  start : 0 ≤ oat O s ∨ (s, 0) ∈ xs
section
variable {nb : Int → List Pl} {s L : Int} {O : List Int} {xs ys : List Pl}
theorem oat_none (x : Int) : oat (List.replicate 64 (-1)) x = -1 := by
  unfold oat
  rw [List.getD_eq_getElem?_getD, List.getElem?_replicate]
  split <;> rfl
theorem oat_set {d p : Int} (hl : O.length = 64) (h0 : 0 ≤ p) (h1 : p < 64) {x : Int} (hx : 0 ≤ x) : oat (O.set p.toNat d) x = if x = p then d else oat O x := by
  unfold oat
  rw [List.getD_eq_getElem?_getD, List.getElem?_set, List.getD_eq_getElem?_getD]
  by_cases e : x = p
  · subst e
    rw [if_pos rfl, if_pos rfl, if_pos (by omega)]; rfl
  · rw [if_neg e, if_neg (by omega)]
theorem Dij.init : Dij nb s (List.replicate 64 (-1)) [(s, 0)] where
  len := by simp
  neg x := .inl (oat_none x)
  way p hp := by simp at hp; subst hp; exact .refl
  done x _ _ h := by rw [oat_none] at h; omega
  closed x _ _ h := by rw [oat_none] at h; omega
  start := .inr (by simp)
theorem Dij.reach (hn : NbOk nb s L) (h : Dij nb s O xs) {x d : Int} (hw : Way nb s x d) : 0 ≤ oat O x ∨ ∃ q ∈ xs, q.2 ≤ d := by
  induction hw with
  | refl =>
    rcases h.start with h1 | h1
    · exact .inl h1
    · exact .inr ⟨_, h1, Int.le_refl _⟩
  | @step x d q hx hq ih =>
    have hr := hn.rng _ _ hq
    rcases ih with ih | ⟨p, hp, hd⟩
    · obtain ⟨h0, h1⟩ := hx.rng hn
      rcases h.closed x h0 h1 ih q hq with h2 | h2
      · exact .inl h2
      · have := (h.done x h0 h1 ih).2 d hx
        exact .inr ⟨_, h2, by show oat O x + q.2 ≤ d + q.2; omega⟩
    · exact .inr ⟨p, hp, by omega⟩
theorem Dij.skip (h : Dij nb s O xs) {p : Pl} (hp : (p :: ys).Perm xs) (hs : 0 ≤ oat O p.1) : Dij nb s O ys where
  len := h.len
  neg := h.neg
  way q hq := h.way q (hp.mem_iff.1 (by simp [hq]))
  done := h.done
  closed x h0 h1 hx q hq := by
    rcases h.closed x h0 h1 hx q hq with h2 | h2
    · exact .inl h2
    · rcases List.mem_cons.1 (hp.mem_iff.2 h2) with h3 | h3
      · left; rw [← h3] at hs; exact hs
      · exact .inr h3
  start := by
    rcases h.start with h2 | h2
    · exact .inl h2
    · rcases List.mem_cons.1 (hp.mem_iff.2 h2) with h3 | h3
      · left; rw [← h3] at hs; exact hs
      · exact .inr h3
theorem Dij.settle (hn : NbOk nb s L) (h : Dij nb s O xs) {p : Pl} (hp : (p :: ys).Perm xs) (hmin : ∀ q ∈ xs, p.2 ≤ q.2) (hs : oat O p.1 < 0) {zs : List Pl} (hz : zs.Perm ((nb p.1).map (fun q => (q.1, p.2 + q.2)) ++ ys)) :
    Dij nb s (O.set p.1.toNat p.2) zs := by
  have hpm : p ∈ xs := hp.mem_iff.1 (by simp)
  have hwp := h.way p hpm
  obtain ⟨p0, p1⟩ := hwp.rng hn
  have hpn := hwp.nonneg hn
  have hO : ∀ {x : Int}, 0 ≤ x → oat (O.set p.1.toNat p.2) x = if x = p.1 then p.2 else oat O x := oat_set h.len p0 p1
  refine ⟨by simp [h.len], fun x => ?_, fun q hq => ?_, fun x h0 h1 hx => ?_, fun x h0 h1 hx q hq => ?_, ?_⟩
  · by_cases hx : 0 ≤ x
    · rw [hO hx]; split
      · exact .inr hpn
      · exact h.neg x
    · have hz : oat (O.set p.1.toNat p.2) x = oat (O.set p.1.toNat p.2) 0 := by unfold oat; rw [show x.toNat = (0 : Int).toNat by omega]
      have hz2 : oat O x = oat O 0 := by unfold oat; rw [show x.toNat = (0 : Int).toNat by omega]
      rw [hz, hO (by omega)]; split
      · exact .inr hpn
      · exact h.neg 0
  · rcases List.mem_append.1 (hz.mem_iff.1 hq) with hq | hq
    · obtain ⟨r, hr, rfl⟩ := List.mem_map.1 hq
      exact hwp.step hr
    · exact h.way q (hp.mem_iff.1 (by simp [hq]))
  · rw [hO h0] at hx ⊢
    by_cases e : x = p.1
    · subst e
      rw [if_pos rfl] at hx ⊢
      refine ⟨hwp, fun d hd => ?_⟩
      rcases h.reach hn hd with h2 | ⟨q, hq, h2⟩
      · omega
      · have := hmin q hq; omega
    · rw [if_neg e] at hx ⊢
      exact h.done x h0 h1 hx
  · obtain ⟨q0, q1, -⟩ := hn.rng _ _ hq
    rw [hO h0] at hx ⊢
    rw [hO q0]
    by_cases eq : q.1 = p.1
    · left; rw [if_pos eq]; exact hpn
    · rw [if_neg eq]
      by_cases e : x = p.1
      · subst e
        right
        rw [if_pos rfl]
        exact hz.mem_iff.2 (List.mem_append_left _ (List.mem_map.2 ⟨q, hq, rfl⟩))
      · rw [if_neg e] at hx ⊢
        rcases h.closed x h0 h1 hx q hq with h2 | h2
        · exact .inl h2
        · rcases List.mem_cons.1 (hp.mem_iff.2 h2) with h3 | h3
          · exact (eq (by rw [← h3])).elim
          · exact .inr (hz.mem_iff.2 (List.mem_append_right _ h3))
  · rw [hO hn.st.1]
    by_cases e : s = p.1
    · left; rw [if_pos e]; exact hpn
    · rw [if_neg e]
      rcases h.start with h2 | h2
      · exact .inl h2
      · rcases List.mem_cons.1 (hp.mem_iff.2 h2) with h3 | h3
        · exact (e (by rw [← h3])).elim
        · exact .inr (hz.mem_iff.2 (List.mem_append_right _ h3))
theorem Dij.final (hn : NbOk nb s L) (h : Dij nb s O []) {x : Int} (h0 : 0 ≤ x) (h1 : x < 64) : Dst nb s x (oat O x) := by
  rcases h.neg x with h2 | h2
  · refine .inr ⟨h2, fun d hd => ?_⟩
    rcases h.reach hn hd with h3 | ⟨q, hq, -⟩
    · omega
    · simp at hq
  · exact .inl ⟨h2, h.done x h0 h1 h2⟩

/-! ### how long it goes on -/
def degS (nb : Int → List Pl) (O : List Int) : Nat → Nat
  | 0 => 0
  | n + 1 => degS nb O n + if O.getD n (-1) < 0 then (nb n).length else 0
theorem degS_le {B : Nat} (hB : ∀ x, (nb x).length ≤ B) : ∀ n, degS nb O n ≤ n * B
  | 0 => by simp [degS]
  | n + 1 => by
    have := degS_le hB n
    have := hB n
    unfold degS
    rw [Nat.add_mul, Nat.one_mul]
    split <;> omega
theorem degS_set {p : Nat} {d : Int} (hl : O.length = 64) (hp : p < 64) (hs : O.getD p (-1) < 0) (hd : 0 ≤ d) : ∀ n, degS nb (O.set p d) n + (if p < n then (nb p).length else 0) = degS nb O n
  | 0 => by simp [degS]
  | n + 1 => by
    have ih := degS_set hl hp hs hd n
    unfold degS
    have hg : (O.set p d).getD n (-1) = if n = p then d else O.getD n (-1) := by
      rw [List.getD_eq_getElem?_getD, List.getElem?_set, List.getD_eq_getElem?_getD]
      by_cases e : n = p
      · subst e; rw [if_pos rfl, if_pos rfl, if_pos (by omega)]; rfl
      · rw [if_neg e, if_neg (Ne.symm e)]
    rw [hg]
    by_cases e : n = p
    · subst e
      rw [if_pos rfl, if_neg (by omega), if_pos hs, if_pos (by omega)]
      rw [if_neg (by omega)] at ih
      omega
    · rw [if_neg e]
      by_cases e2 : p < n
      · rw [if_pos e2] at ih; rw [if_pos (show p < n + 1 by omega)]; omega
      · rw [if_neg e2] at ih; rw [if_neg (show ¬ p < n + 1 by omega)]; omega
end
end Go.Proofs.YteiijmclobggjaaGreat
end
/- The search: distances from one node. -/
section
open Go Mk
namespace Go.Proofs.YteiijmclobggjaaGreat
set_option maxHeartbeats 8000000
attribute [local irreducible] Calls
theorem adj_freeze {Γ : Gho} {S : List Res} {bm : Nat} {N : Int → List Pl} {w : World} (h : AdjS Γ S bm N w) : ∃ Γ' l, Γ.le Γ' ∧ (∀ x v, zeroOr l x v → RepS Γ' v 2 ((N x).map plV)) ∧ Wd Γ' (adjM bm l :: S) w := by
  obtain ⟨l, hn, h0, hw⟩ := h
  have hw2 : Wd Γ (l.map (fun e => Res.own e.2 109 2 ((N e.1).map plV)) ++ (adjM bm l :: S)) w := hw.perm List.perm_middle.symm
  obtain ⟨Γ', hle, hr, hw3⟩ := freeze_list l hw2
  refine ⟨Γ', l, hle, fun x v hv => ?_, hw3⟩
  rcases hv with hv | ⟨hv, rfl⟩
  · have := (aGet_perm hn hv).mem_iff.2 (List.mem_cons_self ..)
    exact hr _ this
  · rw [h0 x hv]; exact repS_nil
theorem zeroOr_some (l : List (Int × Value)) (x : Int) : ∃ v, zeroOr l x v := by
  cases h : aGet l x with
  | some v => exact ⟨v, .inl h⟩
  | none => exact ⟨_, .inr ⟨h, rfl⟩⟩
def LinksOk (ls : List LinkT) : Prop := ls.length ≤ 1000 ∧ ∀ l ∈ ls, 0 ≤ l.A ∧ l.A < 64 ∧ 0 ≤ l.B ∧ l.B < 64 ∧ 1 ≤ l.Latency ∧ l.Latency ≤ 1000000
theorem nbr_ok {ls : List LinkT} {s : Int} (h : LinksOk ls) (hs : 0 ≤ s ∧ s < 64) : NbOk (nbrL ls) s 1000000 := ⟨fun x q hq => by
  unfold nbrL at hq
  obtain ⟨l, hl, hq⟩ := List.mem_flatMap.1 hq
  have := h.2 l hl
  rcases List.mem_append.1 hq with hq | hq
  · split at hq
    · simp only [List.mem_singleton] at hq; subst hq; simp only []; omega
    · simp at hq
  · split at hq
    · simp only [List.mem_singleton] at hq; subst hq; simp only []; omega
    · simp at hq, hs⟩

theorem distances_core {Γ : Gho} {u : Value} {H : HwT} [hh : HwR Γ u H] (hL : LinksOk H.Links) {s : Int} (hs : 0 ≤ s ∧ s < 64) {w : World} (hw : Wd Γ [] w) :
    Calls Tryz.prog 47 #[u, .int .i64 s] w fun e w' => ∃ Γ' v O, Γ.le Γ' ∧ e = .returned v ∧ O.length = 64 ∧ (∀ x, 0 ≤ x → x < 64 → Dst (nbrL H.Links) s x (oat O x) ∧ oat O x ≤ 128001000000) ∧ Wd Γ' [.own v 3 1 (intRows O)] w' := by
  have hc := hL.1
  have hn := nbr_ok hL hs
  refine calls_of_W Tryz.func47 rfl rfl ?_
  have hh' := hh
  obtain ⟨a1, n1, c1, a2, n2, c2, a3, n3, c3, a4, n4, c4, a5, n5, c5, cs, rfl, -⟩ := hh.h
  repeat (first | refine byW ?_ | (refine byV ?_; intro w hw))
  refine lBox ?_
  intro b2 w hw
  have hw : Wd Γ [.blk b2 (.cells #[.string H.Name, .slice a1 n1 c1, .slice a2 n2 c2, .slice a3 n3 c3, .slice a4 n4 c4, .slice a5 n5 c5] 28)] w := hw
  repeat (first | refine byW ?_ | (refine byV ?_; intro w hw))
  refine W_scopeS ?_
  repeat (first | refine byW ?_ | (refine byV ?_; intro w hw))
  refine lCall ((neighbours_any (H := H) hc hw).mono fun e w hq => ?_)
  obtain ⟨bm, rfl, hA⟩ := hq
  clear hw
  obtain ⟨Γ1, l, hle, hrep, hw⟩ := adj_freeze hA
  refine ⟨_, rfl, ?_⟩
  repeat (first | refine byW ?_ | (refine byV ?_; intro w hw))
  refine lMakeSlice (len := 64) ?_
  intro ao w hw
  have hw : Wd Γ1 [.own (.slice (some ao) 64 64) 3 1 (intRows (List.replicate 64 0)), adjM bm l, .blk b2 (.cells #[.string H.Name, .slice a1 n1 c1, .slice a2 n2 c2, .slice a3 n3 c3, .slice a4 n4 c4, .slice a5 n5 c5] 28)] w := hw
  repeat (first | refine byW ?_ | (refine byV ?_; intro w hw))
  refine W_loop (fun μ ρ w => ∃ (k : Nat) (O : List Int), μ + k = 64 ∧ O.length = 64 ∧ (∀ i, i < k → O[i]? = some (-1)) ∧ Has ρ [(1, .int .i64 s), (5, .map (some bm)), (6, .slice (some ao) 64 64), (17, .int .i64 (64 : Nat)), (18, .int .i64 k)] ∧ Wd Γ1 [.own (.slice (some ao) 64 64) 3 1 (intRows O), adjM bm l, .blk b2 (.cells #[.string H.Name, .slice a1 n1 c1, .slice a2 n2 c2, .slice a3 n3 c3, .slice a4 n4 c4, .slice a5 n5 c5] 28)] w) 64 ⟨0, _, by omega, by simp, fun i h => by omega, ⟨rfl, rfl, rfl, rfl, rfl, trivial⟩, hw⟩ ?_
  clear hw
  rintro μ ρ w ⟨k, O, hk, hO, hall, hρ, hw⟩
  rw [hρ.eq]
  clear hρ
  repeat (first | refine byW ?_ | (refine byV ?_; intro w hw))
  refine W_cond rfl (fun h => ?_) (fun h => ?_)
  · have hkn : k < 64 := by have := of_decide_eq_true h; omega
    clear h
    repeat (first | refine byW ?_ | (refine byV ?_; intro w hw))
    refine lStoreE (k := k) (r := [.int .i64 (-1)]) ?_
    intro w hw
    have hw : Wd Γ1 [.own (.slice (some ao) 64 64) 3 1 (intRows (O.set k (-1))), adjM bm l, .blk b2 (.cells #[.string H.Name, .slice a1 n1 c1, .slice a2 n2 c2, .slice a3 n3 c3, .slice a4 n4 c4, .slice a5 n5 c5] 28)] w := by
      have e : intRows (O.set k (-1)) = (intRows O).set k [.int .i64 (-1)] := by unfold intRows; rw [List.map_set]
      rw [e]; exact hw
    repeat (first | refine byW ?_ | (refine byV ?_; intro w hw))
    refine ⟨μ - 1, by omega, k + 1, O.set k (-1), by omega, by simp [hO], fun i hi => ?_, ⟨rfl, rfl, rfl, rfl, rfl, trivial⟩, hw⟩
    rw [List.getElem?_set]
    by_cases e : k = i
    · subst e; rw [if_pos rfl, if_pos (by omega)]
    · rw [if_neg e]; exact hall i (by omega)
  have hkn : ¬ k < 64 := by have := of_decide_eq_false h; omega
  have hO2 : O = List.replicate 64 (-1) := by
    refine List.ext_getElem? fun i => ?_
    rw [List.getElem?_replicate]
    by_cases e : i < 64
    · rw [if_pos e]; exact hall i (by omega)
    · rw [if_neg e, List.getElem?_eq_none (by omega)]
  subst hO2
  clear h hkn hall hO hk
  repeat (first | refine byW ?_ | (refine byV ?_; intro w hw))
  refine lBuildSlice [] ?_
  intro aq w hw
  refine lBox ?_
  intro bq w hw
  have hw : Wd Γ1 [hpB bq (.slice (some aq) 0 0), .own (.slice (some aq) 0 0) 109 2 (([] : List Pl).map plV), .own (.slice (some ao) 64 64) 3 1 (intRows (List.replicate 64 (-1))), adjM bm l, .blk b2 (.cells #[.string H.Name, .slice a1 n1 c1, .slice a2 n2 c2, .slice a3 n3 c3, .slice a4 n4 c4, .slice a5 n5 c5] 28)] w := hw
  refine lY (v := hpI bq) ?_ (hy := y_mkI rfl)
  repeat (first | refine byW ?_ | (refine byV ?_; intro w hw))
  refine lInv ((qadd_any (n := s) (d := 0) (by simp) (fun k h1 h2 => by simp at h2) hw).mono fun e w hq => ?_)
  obtain ⟨rfl, v0, xs0, hp0, hh0, hw⟩ := hq
  refine ⟨_, rfl, ?_⟩
  repeat (first | refine byW ?_ | (refine byV ?_; intro w hw))
  refine W_label ?_
  repeat (first | refine byW ?_ | (refine byV ?_; intro w hw))
  generalize hM0 : 1 + degS (nbrL H.Links) (List.replicate 64 (-1)) 64 = M0
  have hMb : M0 ≤ 128001 := by
    have := degS_le (nb := nbrL H.Links) (O := List.replicate 64 (-1)) (B := 2000) (fun x => by have := nbr_len (ls := H.Links) (x := x); omega) 64
    omega
  have hl0 := hp0.length_eq
  simp only [List.length_singleton] at hl0
  refine W_loop (fun μ ρ w => ∃ (v : Value) (xs : List Pl) (O : List Int), μ = xs.length + degS (nbrL H.Links) O 64 ∧ μ ≤ M0 ∧ HeapN xs xs.length ∧ Dij (nbrL H.Links) s O xs ∧ (∀ p ∈ xs, p.2 + 1000000 * (μ : Int) ≤ 1000000 * (M0 : Int)) ∧ (∀ z, 0 ≤ z → oat O z ≤ 1000000 * (M0 : Int)) ∧ Has ρ [(5, .map (some bm)), (6, .slice (some ao) 64 64), (8, hpI bq)] ∧ Wd Γ1 [hpB bq v, .own v 109 2 (xs.map plV), .own (.slice (some ao) 64 64) 3 1 (intRows O), adjM bm l, .blk b2 (.cells #[.string H.Name, .slice a1 n1 c1, .slice a2 n2 c2, .slice a3 n3 c3, .slice a4 n4 c4, .slice a5 n5 c5] 28)] w) (xs0.length + degS (nbrL H.Links) (List.replicate 64 (-1)) 64) ⟨v0, xs0, List.replicate 64 (-1), rfl, by omega, hh0, ?_, ?_, fun z _ => by rw [oat_none]; omega, ⟨rfl, rfl, rfl, trivial⟩, hw⟩ ?_
  · have e := List.perm_singleton.1 hp0
    rw [e]; exact Dij.init
  · intro p hp
    have e := List.perm_singleton.1 hp0
    rw [e] at hp; simp only [List.mem_singleton] at hp; subst hp
    simp only []
    omega
  clear hw hp0 hh0 hl0
  rintro μ ρ w ⟨v, xs, O, hμ, hμM, hheap, hD, hbd, hOb, hρ, hw⟩
  rw [hρ.eq]
  clear hρ
  repeat (first | refine byW ?_ | (refine byV ?_; intro w hw))
  refine lInv ((qempty_any hw).mono fun e w hq => ?_)
  obtain ⟨rfl, hw⟩ := hq
  refine ⟨_, rfl, ?_⟩
  repeat (first | refine byW ?_ | (refine byV ?_; intro w hw))
  refine W_cond rfl (fun h => ?_) (fun h => ?_)
  · have h : (!decide ((xs.length : Int) = 0)) = true := h
    have hne : xs ≠ [] := fun e => by subst e; simp at h
    clear h
    repeat (first | refine byW ?_ | (refine byV ?_; intro w hw))
    refine lInv ((qtake_any (by omega) hne hheap hw).mono fun e w hq => ?_)
    obtain ⟨x, v, ys, rfl, hp, hmin, hhy, hw⟩ := hq
    refine ⟨_, rfl, ?_⟩
    have hpl := hp.length_eq
    simp only [List.length_cons] at hpl
    have hxm : x ∈ xs := hp.mem_iff.1 (by simp)
    have hwx := hD.way x hxm
    obtain ⟨x0, x1⟩ := hwx.rng hn
    have hxn := hwx.nonneg hn
    have hxb := hbd x hxm
    obtain ⟨y, hy⟩ := get_lt (l := O) (k := x.1.toNat) (by have := hD.len; omega)
    have hoy : oat O x.1 = y := by unfold oat; rw [List.getD_eq_getElem?_getD, hy]; rfl
    repeat (first | refine byW ?_ | (refine byV ?_; intro w hw))
    refine W_cond rfl (fun h => ?_) (fun h => ?_)
    · have h : 0 ≤ y := of_decide_eq_true h
      repeat (first | refine byW ?_ | (refine byV ?_; intro w hw))
      refine ⟨μ - 1, by omega, v, ys, O, by omega, by omega, hhy, hD.skip hp (by omega), fun p hpm => ?_, hOb, ⟨rfl, rfl, rfl, trivial⟩, hw⟩
      have := hbd p (hp.mem_iff.1 (by simp [hpm]))
      omega
    · have h : ¬ 0 ≤ y := of_decide_eq_false h
      repeat (first | refine byW ?_ | (refine byV ?_; intro w hw))
      refine lStoreE (k := x.1.toNat) (r := [.int .i64 x.2]) ?_
      intro w hw
      have hw : Wd Γ1 [hpB bq v, .own v 109 2 (ys.map plV), .own (.slice (some ao) 64 64) 3 1 (intRows (O.set x.1.toNat x.2)), adjM bm l, .blk b2 (.cells #[.string H.Name, .slice a1 n1 c1, .slice a2 n2 c2, .slice a3 n3 c3, .slice a4 n4 c4, .slice a5 n5 c5] 28)] w := by
        have e : intRows (O.set x.1.toNat x.2) = (intRows O).set x.1.toNat [.int .i64 x.2] := by unfold intRows; rw [List.map_set]
        rw [e]; exact hw
      obtain ⟨va, hva⟩ := zeroOr_some l x.1
      have hra := hrep x.1 va hva
      obtain ⟨aa, na, ca, rfl, hna, hnca, hca⟩ := hra.shape
      simp only [List.length_map] at hna
      have hdeg := degS_set (nb := nbrL H.Links) (d := x.2) hD.len (p := x.1.toNat) (by omega) (by unfold oat at hoy; omega) hxn 64
      rw [if_pos (by omega), show ((x.1.toNat : Nat) : Int) = x.1 by omega] at hdeg
      repeat (first | refine byW ?_ | (refine byV ?_; intro w hw))
      refine lY (v := .slice aa na ca) ?_ (hy := y_lookupZ hw hva (i := 3) rfl rfl rfl)
      repeat (first | refine byW ?_ | (refine byV ?_; intro w hw))
      refine W_loop (fun μ2 ρ w => ∃ (k : Nat) (v : Value) (zs : List Pl), μ2 + k = na ∧ zs.Perm (((nbrL H.Links x.1).take k).map (fun q => (q.1, x.2 + q.2)) ++ ys) ∧ HeapN zs zs.length ∧ Has ρ [(5, .map (some bm)), (6, .slice (some ao) 64 64), (8, hpI bq), (10, .int .i64 x.2), (50, .slice aa na ca), (51, .int .i64 na), (52, .int .i64 k)] ∧ Wd Γ1 [hpB bq v, .own v 109 2 (zs.map plV), .own (.slice (some ao) 64 64) 3 1 (intRows (O.set x.1.toNat x.2)), adjM bm l, .blk b2 (.cells #[.string H.Name, .slice a1 n1 c1, .slice a2 n2 c2, .slice a3 n3 c3, .slice a4 n4 c4, .slice a5 n5 c5] 28)] w) na ⟨0, v, ys, by omega, .refl _, hhy, ⟨rfl, rfl, rfl, rfl, rfl, rfl, rfl, trivial⟩, hw⟩ ?_
      clear hw hhy
      rintro μ2 ρ w ⟨k, v, zs, hk, hz, hhz, hρ, hw⟩
      have hzl := hz.length_eq
      simp only [List.length_append, List.length_map, List.length_take] at hzl
      rw [hρ.eq]
      clear hρ
      repeat (first | refine byW ?_ | (refine byV ?_; intro w hw))
      refine W_cond rfl (fun h => ?_) (fun h => ?_)
      · have hkn : k < na := by have := of_decide_eq_true h; omega
        clear h
        obtain ⟨q, hq⟩ := get_lt (l := nbrL H.Links x.1) (k := k) (by omega)
        obtain ⟨q0, q1, q2, q3⟩ := hn.rng x.1 q (List.mem_of_getElem? hq)
        repeat (first | refine byW ?_ | (refine byV ?_; intro w hw))
        refine lAlloc ?_
        intro b12 w hw
        refine lStore ?_
        intro w hw
        have hw : Wd Γ1 [.blk b12 (.cells (plV q).toArray 109), hpB bq v, .own v 109 2 (zs.map plV), .own (.slice (some ao) 64 64) 3 1 (intRows (O.set x.1.toNat x.2)), adjM bm l, .blk b2 (.cells #[.string H.Name, .slice a1 n1 c1, .slice a2 n2 c2, .slice a3 n3 c3, .slice a4 n4 c4, .slice a5 n5 c5] 28)] w := hw
        repeat (first | refine byW ?_ | (refine byV ?_; intro w hw))
        refine lInv ((qadd_any (n := q.1) (d := x.2 + q.2) (by omega) hhz (hw.ps [2, 2])).mono fun e w hq2 => ?_)
        obtain ⟨rfl, v', ws, hp2, hh2, hw⟩ := hq2
        refine ⟨_, rfl, ?_⟩
        have hw := hw.ds [2]
        repeat (first | refine byW ?_ | (refine byV ?_; intro w hw))
        refine ⟨μ2 - 1, by omega, k + 1, v', ws, by omega, ?_, hh2, ⟨rfl, rfl, rfl, rfl, rfl, rfl, rfl, trivial⟩, hw⟩
        rw [take_succ_of hq, List.map_append, List.append_assoc]
        exact hp2.trans ((hz.cons _).trans List.perm_middle.symm)
      · have hkn : ¬ k < na := by have := of_decide_eq_false h; omega
        rw [List.take_of_length_le (by omega)] at hz
        have hzl := hz.length_eq
        simp only [List.length_append, List.length_map] at hzl
        have hD2 := hD.settle hn hp hmin (by omega) hz
        repeat (first | refine byW ?_ | (refine byV ?_; intro w hw))
        refine ⟨μ - 1, by omega, v, zs, O.set x.1.toNat x.2, by omega, by omega, hhz, hD2, fun p hpm => ?_, fun z hz0 => by rw [oat_set hD.len x0 x1 hz0]; split; (· omega); exact hOb z hz0, ⟨rfl, rfl, rfl, trivial⟩, hw⟩
        rcases List.mem_append.1 (hz.mem_iff.1 hpm) with hpm | hpm
        · obtain ⟨q, hq, rfl⟩ := List.mem_map.1 hpm
          have := (hn.rng _ _ hq).2.2.2
          simp only []
          omega
        · have := hbd p (hp.mem_iff.1 (by simp [hpm]))
          omega
  · have h : (!decide ((xs.length : Int) = 0)) = false := h
    have he : xs = [] := by
      have h : decide ((xs.length : Int) = 0) = true := by simpa using h
      have := of_decide_eq_true h
      exact List.length_eq_zero_iff.1 (by omega)
    subst he
    repeat (first | refine byW ?_ | (refine byV ?_; intro w hw))
    exact ⟨_, rfl, Γ1, _, O, hle, rfl, hD.len, fun x h0 h1 => ⟨hD.final hn h0 h1, by have := hOb x h0; omega⟩, hw.ds [0, 0, 1, 1]⟩

theorem distances_any {Γ : Gho} {u : Value} {H : HwT} [hh : HwR Γ u H] (hL : LinksOk H.Links) {s : Int} (hs : 0 ≤ s ∧ s < 64) {S : List Res} {w : World} (hw : Wd Γ S w) :
    Calls Tryz.prog 47 #[u, .int .i64 s] w fun e w' => ∃ v O, e = .returned v ∧ O.length = 64 ∧ (∀ x, 0 ≤ x → x < 64 → Dst (nbrL H.Links) s x (oat O x) ∧ oat O x ≤ 128001000000) ∧ Wd Γ (.own v 3 1 (intRows O) :: S) w' := by
  haveI : HwR (hpG Γ w) u H := hh.mono (hpG_le hw)
  refine (distances_core (Γ := hpG Γ w) hL hs (hpG_wd hw)).mono fun e w' hq => ?_
  obtain ⟨Γ', v, O, hle, rfl, hO, hd, hw'⟩ := hq
  exact ⟨v, O, rfl, hO, hd, wd_keptG (R := [_]) hw hle own_noimm hw'⟩
end Go.Proofs.YteiijmclobggjaaGreat
end
/- Distance; looking for a core. -/
section
open Go Mk
namespace Go.Proofs.YteiijmclobggjaaGreat
set_option maxHeartbeats 8000000
attribute [local irreducible] Calls
noncomputable def dstI (nb : Int → List Pl) (s x : Int) : Int := @Classical.epsilon _ ⟨(0 : Int)⟩ (Dst nb s x)
theorem Dst.eq {nb : Int → List Pl} {s x d : Int} (h : Dst nb s x d) : dstI nb s x = d := (Classical.epsilon_spec_aux ⟨0⟩ (Dst nb s x) ⟨d, h⟩).uniq h
theorem valid_all {H : HwT} (h : validS H = 0) : namesB H = true ∧ countsB H = true ∧ (coresRB H && regionsRB H) = true ∧ alignRB H = true ∧ uniqueB H = true ∧ knownB H = true ∧ hierB H = true ∧ disjB H = true ∧ connB H = true := by
  unfold validS at h
  by_cases e1 : namesB H = false
  · rw [if_pos e1] at h; cases h
  rw [if_neg e1] at h
  by_cases e2 : countsB H = false
  · rw [if_pos e2] at h; cases h
  rw [if_neg e2] at h
  by_cases e3 : (coresRB H && regionsRB H) = false
  · rw [if_pos e3] at h; cases h
  rw [if_neg e3] at h
  by_cases e4 : alignRB H = false
  · rw [if_pos e4] at h; cases h
  rw [if_neg e4] at h
  by_cases e5 : uniqueB H = false
  · rw [if_pos e5] at h; cases h
  rw [if_neg e5] at h
  by_cases e6 : knownB H = false
  · rw [if_pos e6] at h; cases h
  rw [if_neg e6] at h
  by_cases e7 : hierB H = false
  · rw [if_pos e7] at h; cases h
  rw [if_neg e7] at h
  by_cases e8 : disjB H = false
  · rw [if_pos e8] at h; cases h
  rw [if_neg e8] at h
  by_cases e9 : connB H = false
  · rw [if_pos e9] at h; cases h
  exact ⟨by simpa using e1, by simpa using e2, by simpa using e3, by simpa using e4, by simpa using e5, by simpa using e6, by simpa using e7, by simpa using e8, by simpa using e9⟩
theorem valid_links {H : HwT} (h : validS H = 0) : LinksOk H.Links := by
  obtain ⟨-, h2, h3, -⟩ := valid_all h
  obtain ⟨-, -, -, l3, -⟩ := counts_le h2
  refine ⟨by omega, fun l hl => ?_⟩
  unfold coresRB at h3
  simp only [Bool.and_eq_true] at h3
  have := List.all_eq_true.1 h3.1.2.2 l hl
  simp [linkRB, isNodeB, isLatB] at this
  omega
noncomputable def checkS (H : HwT) (a b : Int) : Int := if validS H = 0 then (if a < 0 ∨ 64 ≤ a ∨ b < 0 ∨ 64 ≤ b then 6 else 0) else validS H
instance pg_check {Γ : Gho} {u : Value} {H : HwT} [hh : HwR Γ u H] (a b : Int) : PG Tryz.prog Γ 46 [u, .int .i64 a, .int .i64 b] (.int .i64 (checkS H a b)) := ⟨fun S w hw => by
  have hh' := hh
  obtain ⟨a1, n1, c1, a2, n2, c2, a3, n3, c3, a4, n4, c4, a5, n5, c5, cs, rfl, -⟩ := hh.h
  refine calls_of_W Tryz.func46 rfl rfl ?_
  repeat (first | refine byW ?_ | (refine byV ?_; intro w hw))
  refine lBox ?_
  intro b1 w hw
  have hw : Wd Γ (.blk b1 (.cells #[.string H.Name, .slice a1 n1 c1, .slice a2 n2 c2, .slice a3 n3 c3, .slice a4 n4 c4, .slice a5 n5 c5] 28) :: S) w := hw
  unfold checkS
  repeat (first | refine byW ?_ | (refine byV ?_; intro w hw))
  refine W_cond rfl (fun h => ?_) (fun h => ?_)
  · have h : ¬ validS H = 0 := by simpa using h
    rw [if_neg h]
    repeat (first | refine byW ?_ | (refine byV ?_; intro w hw))
    exact ⟨_, rfl, rfl, hw.drop⟩
  · have h : validS H = 0 := by simpa using h
    rw [if_pos h]
    repeat (first | refine byW ?_ | (refine byV ?_; intro w hw))
    refine W_cond rfl (fun h2 => ?_) (fun h2 => ?_)
    · have h2 : (((decide (a < 0) || decide (a ≥ 64)) || decide (b < 0)) || decide (b ≥ 64)) = true := h2
      rw [if_pos (by simp at h2; omega)]
      repeat (first | refine byW ?_ | (refine byV ?_; intro w hw))
      exact ⟨_, rfl, rfl, hw.drop⟩
    · have h2 : (((decide (a < 0) || decide (a ≥ 64)) || decide (b < 0)) || decide (b ≥ 64)) = false := h2
      rw [if_neg (by simp at h2; omega)]
      repeat (first | refine byW ?_ | (refine byV ?_; intro w hw))
      exact ⟨_, rfl, rfl, hw.drop⟩⟩

noncomputable def distS (H : HwT) (a b : Int) : Int × Int := if checkS H a b = 0 then (if dstI (nbrL H.Links) a b < 0 then (0, 60) else (dstI (nbrL H.Links) a b, 0)) else (0, checkS H a b)
theorem check_ok {H : HwT} {a b : Int} (h : checkS H a b = 0) : validS H = 0 ∧ 0 ≤ a ∧ a < 64 ∧ 0 ≤ b ∧ b < 64 := by
  unfold checkS at h
  by_cases e : validS H = 0
  · rw [if_pos e] at h
    by_cases e2 : a < 0 ∨ 64 ≤ a ∨ b < 0 ∨ 64 ≤ b
    · rw [if_pos e2] at h; cases h
    · exact ⟨e, by omega, by omega, by omega, by omega⟩
  · rw [if_neg e] at h; exact absurd h e
instance pg_Distance {Γ : Gho} {u : Value} {H : HwT} [hh : HwR Γ u H] (a b : Int) : PG Tryz.prog Γ 24 [u, .int .i64 a, .int .i64 b] (.tuple #[.int .i64 (distS H a b).1, .int .i64 (distS H a b).2]) := ⟨fun S w hw => by
  have hh' := hh
  obtain ⟨a1, n1, c1, a2, n2, c2, a3, n3, c3, a4, n4, c4, a5, n5, c5, cs, rfl, -⟩ := hh.h
  refine calls_of_W Tryz.func24 rfl rfl ?_
  repeat (first | refine byW ?_ | (refine byV ?_; intro w hw))
  refine lBox ?_
  intro b1 w hw
  have hw : Wd Γ (.blk b1 (.cells #[.string H.Name, .slice a1 n1 c1, .slice a2 n2 c2, .slice a3 n3 c3, .slice a4 n4 c4, .slice a5 n5 c5] 28) :: S) w := hw
  unfold distS
  repeat (first | refine byW ?_ | (refine byV ?_; intro w hw))
  refine W_cond rfl (fun h => ?_) (fun h => ?_)
  · have h : ¬ checkS H a b = 0 := by simpa using h
    rw [if_neg h]
    repeat (first | refine byW ?_ | (refine byV ?_; intro w hw))
    exact ⟨_, rfl, rfl, hw.drop⟩
  have h : checkS H a b = 0 := by simpa using h
  rw [if_pos h]
  obtain ⟨hv, ha0, ha1, hb0, hb1⟩ := check_ok h
  repeat (first | refine byW ?_ | (refine byV ?_; intro w hw))
  refine lCall ((distances_any (H := H) (valid_links hv) ⟨ha0, ha1⟩ hw).mono fun e w hq => ?_)
  obtain ⟨v, O, rfl, hO, hd, hw⟩ := hq
  obtain ⟨ao, no, co, rfl, hno, hnc, -⟩ := hw.own_shape (i := 0) rfl
  simp only [intRows, List.length_map] at hno
  obtain ⟨y, hy⟩ := get_lt (l := O) (k := b.toNat) (by omega)
  have hyb : oat O b = y := by unfold oat; rw [List.getD_eq_getElem?_getD, hy]; rfl
  have hdb := (hd b hb0 hb1).1
  rw [hyb] at hdb
  rw [hdb.eq]
  refine ⟨_, rfl, ?_⟩
  repeat (first | refine byW ?_ | (refine byV ?_; intro w hw))
  refine W_cond rfl (fun h => ?_) (fun h => ?_)
  · have h : y < 0 := of_decide_eq_true h
    rw [if_pos h]
    repeat (first | refine byW ?_ | (refine byV ?_; intro w hw))
    exact ⟨_, rfl, rfl, hw.ds [0, 0]⟩
  · have h : ¬ y < 0 := of_decide_eq_false h
    rw [if_neg h]
    repeat (first | refine byW ?_ | (refine byV ?_; intro w hw))
    exact ⟨_, rfl, rfl, hw.ds [0, 0]⟩⟩
end Go.Proofs.YteiijmclobggjaaGreat
end
/- Looking for a core by its number. -/
section
open Go Mk
namespace Go.Proofs.YteiijmclobggjaaGreat
set_option maxHeartbeats 8000000
attribute [local irreducible] Calls
def coreIx (l : List CoreT) (id : Int) : Int := match l.findIdx? (fun x => decide (x.ID = id)) with | some k => k | none => -1
def findC (l : List CoreT) (id : Int) : CoreT × Bool := match l.find? (fun x => decide (x.ID = id)) with | some c => (c, true) | none => (⟨0, 0, 0, 0⟩, false)
theorem coreIx_some {l : List CoreT} {id : Int} {k : Nat} {x : CoreT} (hx : l[k]? = some x) (he : x.ID = id) (hl : ∀ j y, j < k → l[j]? = some y → y.ID ≠ id) : coreIx l id = k ∧ findC l id = (x, true) := by
  obtain ⟨hk, hxk⟩ := List.getElem?_eq_some_iff.1 hx
  have h1 : l.findIdx? (fun x => decide (x.ID = id)) = some k := by
    rw [List.findIdx?_eq_some_iff_getElem]
    refine ⟨hk, by rw [hxk]; simpa using he, fun j hj => ?_⟩
    have := hl j l[j] hj (List.getElem?_eq_getElem ..)
    simpa using this
  have h2 : l.find? (fun x => decide (x.ID = id)) = some x := by
    rw [List.find?_eq_some_iff_getElem]
    refine ⟨by simpa using he, k, hk, hxk, fun j hj => ?_⟩
    have := hl j l[j] hj (List.getElem?_eq_getElem ..)
    simpa using this
  unfold coreIx findC
  rw [h1, h2]; exact ⟨rfl, rfl⟩
theorem coreIx_none {l : List CoreT} {id : Int} (hl : ∀ y ∈ l, y.ID ≠ id) : coreIx l id = -1 ∧ findC l id = (⟨0, 0, 0, 0⟩, false) := by
  have h1 : l.findIdx? (fun x => decide (x.ID = id)) = none := by
    rw [List.findIdx?_eq_none_iff]; intro x hx; simpa using hl x hx
  have h2 : l.find? (fun x => decide (x.ID = id)) = none := by
    rw [List.find?_eq_none]; intro x hx; simpa using hl x hx
  unfold coreIx findC
  rw [h1, h2]; exact ⟨rfl, rfl⟩

theorem find1_any {Γ : Gho} {S : List Res} {w : World} {b : Nat} {id : Int} (x : CoreT) (hw : Wd Γ (.blk b (.cells #[.int .i64 id] 3) :: S) w) :
    Calls Tryz.prog 67 #[.agg (enc x).toArray, .pointer (some ⟨b, 0, none⟩)] w fun e w' => e = .returned (.bool (decide (x.ID = id))) ∧ Wd Γ (.blk b (.cells #[.int .i64 id] 3) :: S) w' := by
  refine calls_of_W Tryz.func67 rfl rfl ?_
  repeat (first | refine byW ?_ | (refine byV ?_; intro w hw))
  refine lBox ?_
  intro b2 w hw
  have hw : Wd Γ (.blk b2 (.cells (enc x).toArray 53) :: .blk b (.cells #[.int .i64 id] 3) :: S) w := hw
  repeat (first | refine byW ?_ | (refine byV ?_; intro w hw))
  exact ⟨_, rfl, rfl, hw.drop⟩
theorem coreIdx_any {Γ : Gho} {S : List Res} {w : World} {b : Nat} {id : Int} {v : Value} {xs : List CoreT} (hr : RepS Γ v 4 (xs.map enc)) (hw : Wd Γ (.blk b (.cells #[.int .i64 id] 3) :: S) w) :
    Calls Tryz.prog 66 #[v, .func (.func 67) #[] #[.pointer (some ⟨b, 0, none⟩)]] w fun e w' => e = .returned (.int .i64 (coreIx xs id)) ∧ Wd Γ (.blk b (.cells #[.int .i64 id] 3) :: S) w' := by
  obtain ⟨a, n, c, rfl, hn, hnc, hc⟩ := hr.shape
  simp only [List.length_map] at hn
  refine calls_of_W Tryz.func66 rfl rfl ?_
  repeat (first | refine byW ?_ | (refine byV ?_; intro w hw))
  refine W_loop (fun μ ρ w => ∃ (k : Nat), μ + k = n ∧ Has ρ [(0, .slice a n c), (1, .func (.func 67) #[] #[.pointer (some ⟨b, 0, none⟩)]), (7, .int .i64 n), (8, .int .i64 k)] ∧ (∀ j x, j < k → xs[j]? = some x → x.ID ≠ id) ∧ Wd Γ (.blk b (.cells #[.int .i64 id] 3) :: S) w) n ⟨0, by omega, ⟨rfl, rfl, rfl, rfl, trivial⟩, fun j x h => by omega, hw⟩ ?_
  clear hw
  rintro μ ρ w ⟨k, hk, hρ, hno, hw⟩
  rw [hρ.eq]
  clear hρ
  repeat (first | refine byW ?_ | (refine byV ?_; intro w hw))
  refine W_cond rfl (fun h => ?_) (fun h => ?_)
  · have hkn : k < n := by have := of_decide_eq_true h; omega
    obtain ⟨x, hx⟩ := get_lt (l := xs) (k := k) (by omega)
    repeat (first | refine byW ?_ | (refine byV ?_; intro w hw))
    refine lCallv (fst := []) (cap := [.pointer (some ⟨b, 0, none⟩)]) (vs := [.agg (enc x).toArray]) ?_
    refine (find1_any x hw).mono ?_
    clear hw
    rintro e w ⟨rfl, hw⟩
    refine ⟨_, rfl, ?_⟩
    repeat (first | refine byW ?_ | (refine byV ?_; intro w hw))
    refine W_cond rfl (fun h2 => ?_) (fun h2 => ?_)
    · have h2 : x.ID = id := of_decide_eq_true h2
      repeat (first | refine byW ?_ | (refine byV ?_; intro w hw))
      exact ⟨_, rfl, by rw [(coreIx_some hx h2 hno).1]; rfl, hw⟩
    · have h2 : ¬ x.ID = id := of_decide_eq_false h2
      repeat (first | refine byW ?_ | (refine byV ?_; intro w hw))
      refine ⟨μ - 1, by omega, k + 1, by omega, ⟨rfl, rfl, rfl, rfl, trivial⟩, fun j y hj hy => ?_, hw⟩
      by_cases e : j = k
      · subst e; rw [hx] at hy; cases hy; exact h2
      · exact hno j y (by omega) hy
  · have hkn : ¬ k < n := by have := of_decide_eq_false h; omega
    repeat (first | refine byW ?_ | (refine byV ?_; intro w hw))
    exact ⟨_, rfl, by rw [(coreIx_none (l := xs) (id := id) (fun y hy => by
      obtain ⟨j, hj⟩ := List.mem_iff_getElem?.1 hy
      exact hno j y (by have := (List.getElem?_eq_some_iff.1 hj).1; omega) hj)).1]; rfl, hw⟩
theorem coreIx_cases (l : List CoreT) (id : Int) : (coreIx l id = -1 ∧ findC l id = (⟨0, 0, 0, 0⟩, false) ∧ ∀ y ∈ l, y.ID ≠ id) ∨ ∃ (k : Nat) (x : CoreT), coreIx l id = k ∧ l[k]? = some x ∧ x.ID = id ∧ findC l id = (x, true) := by
  by_cases h : ∀ y ∈ l, y.ID ≠ id
  · have := coreIx_none h
    exact .inl ⟨this.1, this.2, h⟩
  · right
    cases hq : l.findIdx? (fun x => decide (x.ID = id)) with
    | none =>
      exfalso; apply h
      intro y hy he
      have := List.findIdx?_eq_none_iff.1 hq y hy
      simp [he] at this
    | some k =>
      obtain ⟨hk, h1, h2⟩ := List.findIdx?_eq_some_iff_getElem.1 hq
      have hx := List.getElem?_eq_getElem hk
      have h1 : l[k].ID = id := by simpa using h1
      have := coreIx_some hx h1 (fun j y hj hy => by
        obtain ⟨hj2, e⟩ := List.getElem?_eq_some_iff.1 hy
        have := h2 j hj
        rw [← e]; simpa using this)
      exact ⟨k, l[k], this.1, hx, h1, this.2⟩

instance pg_find {Γ : Gho} {u : Value} {H : HwT} [hh : HwR Γ u H] (id : Int) : PG Tryz.prog Γ 30 [u, .int .i64 id] (.tuple #[.agg (enc (findC H.Cores id).1).toArray, .bool (findC H.Cores id).2]) := ⟨fun S w hw => by
  obtain ⟨a1, n1, c1, a2, n2, c2, a3, n3, c3, a4, n4, c4, a5, n5, c5, cs, rfl, hcs, hok, hsz, r1, r2, r3, r4, r5⟩ := hh.h
  obtain ⟨hn1, hm1, hx1⟩ := rep_facts r1
  simp only [List.length_map] at hn1
  refine calls_of_WC Tryz.func30 rfl rfl ?_
  repeat (first | refine byW ?_ | (refine byV ?_; intro w hw))
  refine lBox ?_
  intro b2 w hw
  refine lBox ?_
  intro b3 w hw
  refine lAlloc ?_
  intro b4 w hw
  have hw : Wd Γ (.blk b4 (.cells (enc (⟨0, 0, 0, 0⟩ : CoreT)).toArray 53) :: .blk b3 (.cells #[.int .i64 id] 3) :: .blk b2 (.cells #[.string H.Name, .slice a1 n1 c1, .slice a2 n2 c2, .slice a3 n3 c3, .slice a4 n4 c4, .slice a5 n5 c5] 28) :: S) w := hw
  repeat (first | refine byW ?_ | (refine byV ?_; intro w hw))
  refine lCall ((coreIdx_any (id := id) r1 (hw.ps [1])).mono fun e w hq => ?_)
  obtain ⟨rfl, hw⟩ := hq
  have hw := hw.ps [1]
  refine ⟨_, rfl, ?_⟩
  rcases coreIx_cases H.Cores id with ⟨h1, h2, -⟩ | ⟨k, x, h1, hx, he, h2⟩
  · rw [h1, h2]
    repeat (first | refine byW ?_ | (refine byV ?_; intro w hw))
    refine W_cond_true rfl ?_
    repeat (first | refine byW ?_ | (refine byV ?_; intro w hw))
    refine lStore ?_
    intro w hw
    have hw : Wd Γ (.blk b4 (.cells (enc (⟨0, 0, 0, 0⟩ : CoreT)).toArray 53) :: .blk b3 (.cells #[.int .i64 id] 3) :: .blk b2 (.cells #[.string H.Name, .slice a1 n1 c1, .slice a2 n2 c2, .slice a3 n3 c3, .slice a4 n4 c4, .slice a5 n5 c5] 28) :: S) w := hw
    repeat (first | refine byW ?_ | (refine byV ?_; intro w hw))
    exact ⟨[_, _], ⟨resC (i := 0) hw rfl rfl rfl, rfl, trivial⟩, rfl, hw.ds [0, 0, 0]⟩
  · rw [h1, h2]
    have hk : k < n1 := by have := (List.getElem?_eq_some_iff.1 hx).1; omega
    repeat (first | refine byW ?_ | (refine byV ?_; intro w hw))
    refine W_cond_false (by show Value.bool (decide ((k : Int) < 0)) = _; rw [decide_eq_false (by omega)]) ?_
    repeat (first | refine byW ?_ | (refine byV ?_; intro w hw))
    refine lStore ?_
    intro w hw
    have hw : Wd Γ (.blk b4 (.cells (enc x).toArray 53) :: .blk b3 (.cells #[.int .i64 id] 3) :: .blk b2 (.cells #[.string H.Name, .slice a1 n1 c1, .slice a2 n2 c2, .slice a3 n3 c3, .slice a4 n4 c4, .slice a5 n5 c5] 28) :: S) w := hw
    repeat (first | refine byW ?_ | (refine byV ?_; intro w hw))
    exact ⟨[_, _], ⟨resC (i := 0) hw rfl rfl rfl, rfl, trivial⟩, rfl, hw.ds [0, 0, 0]⟩⟩
end Go.Proofs.YteiijmclobggjaaGreat
end
/- Distances between cores, each node's computed once. -/
section
open Go Mk
namespace Go.Proofs.YteiijmclobggjaaGreat
set_option maxHeartbeats 8000000
attribute [local irreducible] Calls
noncomputable def distL (H : HwT) (s : Int) : List Int := (List.range 64).map fun i : Nat => dstI (nbrL H.Links) s (i : Int)
theorem distL_get {H : HwT} {s x : Int} (h0 : 0 ≤ x) (h1 : x < 64) : (distL H s)[x.toNat]? = some (dstI (nbrL H.Links) s x) := by
  unfold distL
  rw [List.getElem?_map, List.getElem?_range (by omega)]
  show some (dstI _ s ((x.toNat : Nat) : Int)) = _
  rw [show ((x.toNat : Nat) : Int) = x by omega]
theorem distL_eq {H : HwT} {s : Int} {O : List Int} (hO : O.length = 64) (hd : ∀ x, 0 ≤ x → x < 64 → Dst (nbrL H.Links) s x (oat O x) ∧ oat O x ≤ 128001000000) : O = distL H s := by
  refine List.ext_getElem? fun i => ?_
  by_cases h : i < 64
  · have h1 := distL_get (H := H) (s := s) (x := i) (by omega) (by omega)
    rw [show ((i : Int)).toNat = i by omega] at h1
    rw [h1]
    have h2 := (hd i (by omega) (by omega)).1.eq
    rw [h2]
    unfold oat
    rw [show ((i : Int)).toNat = i by omega, List.getD_eq_getElem?_getD, List.getElem?_eq_getElem (by omega)]; rfl
  · rw [List.getElem?_eq_none (by omega), List.getElem?_eq_none (by unfold distL; simp; omega)]
theorem distancesL_any {Γ : Gho} {u : Value} {H : HwT} [hh : HwR Γ u H] (hL : LinksOk H.Links) {s : Int} (hs : 0 ≤ s ∧ s < 64) {S : List Res} {w : World} (hw : Wd Γ S w) :
    Calls Tryz.prog 47 #[u, .int .i64 s] w fun e w' => ∃ v, e = .returned v ∧ Wd Γ (.own v 3 1 (intRows (distL H s)) :: S) w' :=
  (distances_any hL hs hw).mono fun e w' ⟨v, O, h1, h2, h3, h4⟩ => ⟨v, h1, by rw [← distL_eq h2 h3]; exact h4⟩
/-- All distances are bounded. -/
noncomputable def coreN (H : HwT) (x : Int) : Int := (findC H.Cores x).1.Node
noncomputable def farI (H : HwT) (x y : Int) : Int := dstI (nbrL H.Links) (coreN H x) (coreN H y)

abbrev btwB (bb : Nat) (H : HwT) (a1 : Option Addr) (n1 c1 : Nat) (a2 : Option Addr) (n2 c2 : Nat) (a3 : Option Addr) (n3 c3 : Nat) (a4 : Option Addr) (n4 c4 : Nat) (a5 : Option Addr) (n5 c5 : Nat) (bm : Nat) : Res :=
  .blk bb (.cells #[.string H.Name, .slice a1 n1 c1, .slice a2 n2 c2, .slice a3 n3 c3, .slice a4 n4 c4, .slice a5 n5 c5, .map (some bm)] 78)
noncomputable def dsO (H : HwT) (e : Int × Value) : Res := .own e.2 3 1 (intRows (distL H e.1))
theorem own_some {Γ : Gho} {S : List Res} {w : World} {H : HwT} {x : Int} {aa : Option Addr} {na ca : Nat} (hw : Wd Γ (.own (.slice aa na ca) 3 1 (intRows (distL H x)) :: S) w) : aa ≠ none := by
  obtain ⟨bss, h1, -⟩ := hw.own
  cases bss with
  | nil => exact h1.elim
  | cons bs bss =>
    have hr := h1.1
    unfold Res.own at hr
    obtain ⟨-, a, n, c, e, hn, hnc, -, h⟩ := hr
    cases e
    rcases h with ⟨h, -⟩ | ⟨g, cur, h, -⟩
    · have : na = 64 := by rw [hn]; simp [intRows, distL]
      omega
    · rw [h]; simp
theorem ds_find {Γ : Gho} {A S : List Res} {w : World} {H : HwT} {l : List (Int × Value)} {a : Int} {v : Value} (hl : (l.map (·.1)).Nodup) (hg : aGet l a = some v) (hw : Wd Γ (A ++ (l.map (dsO H) ++ S)) w) : Wd Γ (dsO H (a, v) :: (A ++ ((restL l a).map (dsO H) ++ S))) w :=
  hw.perm ((List.Perm.append_left A (((aGet_perm hl hg).map (dsO H)).append_right S)).trans List.perm_middle)
theorem ds_back {Γ : Gho} {A S : List Res} {w : World} {H : HwT} {l : List (Int × Value)} {a : Int} {v : Value} (hl : (l.map (·.1)).Nodup) (hg : aGet l a = some v) (hw : Wd Γ (dsO H (a, v) :: (A ++ ((restL l a).map (dsO H) ++ S))) w) : Wd Γ (A ++ (l.map (dsO H) ++ S)) w :=
  hw.perm ((List.Perm.append_left A (((aGet_perm hl hg).map (dsO H)).append_right S)).trans List.perm_middle).symm
theorem cores_any {Γ : Gho} {H : HwT} {a1 : Option Addr} {n1 c1 : Nat} {a2 : Option Addr} {n2 c2 : Nat} {a3 : Option Addr} {n3 c3 : Nat} {a4 : Option Addr} {n4 c4 : Nat} {a5 : Option Addr} {n5 c5 : Nat} [hh : HwR Γ (.agg #[.string H.Name, .slice a1 n1 c1, .slice a2 n2 c2, .slice a3 n3 c3, .slice a4 n4 c4, .slice a5 n5 c5]) H] (hL : LinksOk H.Links) {x y : Int} (hx : 0 ≤ coreN H x ∧ coreN H x < 64) (hy : 0 ≤ coreN H y ∧ coreN H y < 64) {bb bm : Nat} {l : List (Int × Value)} (hl : (l.map (·.1)).Nodup) {S : List Res} {w : World} (hw : Wd Γ (btwB bb H a1 n1 c1 a2 n2 c2 a3 n3 c3 a4 n4 c4 a5 n5 c5 bm :: adjM bm l :: (l.map (dsO H) ++ S)) w) :
    Calls Tryz.prog 40 #[.pointer (some ⟨bb, 0, none⟩), .int .i64 x, .int .i64 y] w fun e w' => e = .returned (.int .i64 (farI H x y)) ∧ ∃ l', (l'.map (·.1)).Nodup ∧ Wd Γ (btwB bb H a1 n1 c1 a2 n2 c2 a3 n3 c3 a4 n4 c4 a5 n5 c5 bm :: adjM bm l' :: (l'.map (dsO H) ++ S)) w' := by
  unfold farI
  unfold coreN at hx hy ⊢
  refine calls_of_W Tryz.func40 rfl rfl ?_
  generalize hp : (findC H.Cores x).1 = p at hx ⊢
  generalize hq : (findC H.Cores y).1 = q at hy ⊢
  repeat (first | refine byW ?_ | (refine byV ?_; intro w hw))
  refine lPg (hp := pg_find (hh := hh) x) ?_
  intro w hw
  rw [hp]
  repeat (first | refine byW ?_ | (refine byV ?_; intro w hw))
  refine lAlloc ?_
  intro b7 w hw
  refine lStore ?_
  intro w hw
  repeat (first | refine byW ?_ | (refine byV ?_; intro w hw))
  refine lPg (hp := pg_find (hh := hh) y) ?_
  intro w hw
  rw [hq]
  repeat (first | refine byW ?_ | (refine byV ?_; intro w hw))
  refine lAlloc ?_
  intro b9 w hw
  refine lStore ?_
  intro w hw
  have hw : Wd Γ (.blk b9 (.cells (enc q).toArray 53) :: .blk b7 (.cells (enc p).toArray 53) :: btwB bb H a1 n1 c1 a2 n2 c2 a3 n3 c3 a4 n4 c4 a5 n5 c5 bm :: adjM bm l :: (l.map (dsO H) ++ S)) w := hw
  repeat (first | refine byW ?_ | (refine byV ?_; intro w hw))
  obtain ⟨aa, na, ca, hva, hcs⟩ : ∃ aa na ca, zeroOr l p.Node (.slice aa na ca) ∧ ((aa = none ∧ aGet l p.Node = none) ∨ (aa ≠ none ∧ aGet l p.Node = some (.slice aa na ca))) := by
    cases hg : aGet l p.Node with
    | none => exact ⟨none, 0, 0, .inr ⟨hg, rfl⟩, .inl ⟨rfl, rfl⟩⟩
    | some v =>
      have hw2 := ds_find (A := [.blk b9 (.cells (enc q).toArray 53), .blk b7 (.cells (enc p).toArray 53), btwB bb H a1 n1 c1 a2 n2 c2 a3 n3 c3 a4 n4 c4 a5 n5 c5 bm, adjM bm l]) hl hg hw
      unfold dsO at hw2
      obtain ⟨aa, na, ca, rfl, hn, -⟩ := hw2.own_shape (i := 0) rfl
      have hns := own_some hw2
      exact ⟨aa, na, ca, .inl hg, .inr ⟨hns, rfl⟩⟩
  refine W_quiet (by kernel_rfl) (by kernel_rfl) hw ?_
  repeat (first | refine Q_nil ?_ | (apply Q_plain; first | (apply Q_go; first | refine qP ?_ | refine qPg ?_) | refine qY ?_) | (apply Q_guarded; first | (apply Q_go; first | refine qPG ?_ | refine qPgG ?_) | refine qG ?_))
  refine qY (v := .slice aa na ca) ?_ (hy := fun w hw => y_lookupZ hw hva (i := 3) rfl rfl rfl)
  repeat (first | refine Q_nil ?_ | (apply Q_plain; first | (apply Q_go; first | refine qP ?_ | refine qPg ?_) | refine qY ?_) | (apply Q_guarded; first | (apply Q_go; first | refine qPG ?_ | refine qPgG ?_) | refine qG ?_))
  intro w hw
  refine W_cutT (fun ρ w => ∃ (l' : List (Int × Value)) (v : Value), (l'.map (·.1)).Nodup ∧ aGet l' p.Node = some v ∧ Has ρ [(0, .pointer (some ⟨bb, 0, none⟩)), (7, .pointer (some ⟨b7, 0, none⟩)), (9, .pointer (some ⟨b9, 0, none⟩))] ∧ Wd Γ ([.blk b9 (.cells (enc q).toArray 53), .blk b7 (.cells (enc p).toArray 53), btwB bb H a1 n1 c1 a2 n2 c2 a3 n3 c3 a4 n4 c4 a5 n5 c5 bm, adjM bm l'] ++ (l'.map (dsO H) ++ S)) w) ?_ ?_
  · refine W_cond rfl (fun h => ?_) (fun h => ?_)
    · have h : aa.isNone = true := h
      have hg : aGet l p.Node = none := by
        rcases hcs with ⟨-, hg⟩ | ⟨hh2, -⟩
        · exact hg
        · cases aa with
          | none => exact (hh2 rfl).elim
          | some _ => simp at h
      have hw : Wd Γ ([.blk b7 (.cells (enc p).toArray 53), btwB bb H a1 n1 c1 a2 n2 c2 a3 n3 c3 a4 n4 c4 a5 n5 c5 bm] ++ ([adjM bm l] ++ ((.blk b9 (.cells (enc q).toArray 53) :: (l.map (dsO H) ++ S)) ++ []))) w := by
        rw [List.append_nil]
        exact hw.perm ((List.perm_middle (l₁ := [.blk b7 (.cells (enc p).toArray 53), btwB bb H a1 n1 c1 a2 n2 c2 a3 n3 c3 a4 n4 c4 a5 n5 c5 bm, adjM bm l])).symm)
      repeat (first | refine byW ?_ | (refine byV ?_; intro w hw))
      refine W_mixed [.blk b7 (.cells (enc p).toArray 53), btwB bb H a1 n1 c1 a2 n2 c2 a3 n3 c3 a4 n4 c4 a5 n5 c5 bm] [fun _ => [adjM bm l], fun _ => .blk b9 (.cells (enc q).toArray 53) :: (l.map (dsO H) ++ S)] [[],[],[],[],[],[],[],[],[],[],[],[],[0],[0]] [[],[],[],[],[],[],[],[],[],[],[],[],[0],[0]] [[49], []] (by exact hw) ?_
      repeat (first | refine mY ?_ | refine mP ?_ | refine mPg ?_)
      refine mCallG (c := 0) (F := fun _ => [adjM bm l]) (F' := fun g => [adjM bm l, .own (g 49) 3 1 (intRows (distL H p.Node))]) (vs := fun _ => [.agg #[.string H.Name, .slice a1 n1 c1, .slice a2 n2 c2, .slice a3 n3 c3, .slice a4 n4 c4, .slice a5 n5 c5], .int .i64 p.Node]) (hs := fun g w Y hw => (distancesL_any hL hx hw).mono fun e w' ⟨v, h1, h2⟩ => ⟨v, h1, h2.ps [1]⟩) ?_
      refine mPutV (j := 0) ?_
      refine mEnd fun w g hw => ?_
      have hw : Wd Γ ([.blk b7 (.cells (enc p).toArray 53), btwB bb H a1 n1 c1 a2 n2 c2 a3 n3 c3 a4 n4 c4 a5 n5 c5 bm, adjM bm (aSet l p.Node (g 49)), dsO H (p.Node, g 49)] ++ (.blk b9 (.cells (enc q).toArray 53) :: ((l.map (dsO H) ++ S) ++ []))) w := hw
      rw [List.append_nil] at hw
      have hpm := (aSet_perm hl p.Node (g 49)).map (dsO H)
      rw [aGet_none_filter hg, List.map_cons] at hpm
      have hw : Wd Γ ([.blk b9 (.cells (enc q).toArray 53), .blk b7 (.cells (enc p).toArray 53), btwB bb H a1 n1 c1 a2 n2 c2 a3 n3 c3 a4 n4 c4 a5 n5 c5 bm, adjM bm (aSet l p.Node (g 49))] ++ (dsO H (p.Node, g 49) :: l.map (dsO H) ++ S)) w := hw.perm List.perm_middle
      have hw := hw.perm (List.Perm.append_left _ (hpm.append_right S).symm)
      exact ⟨aSet l p.Node (g 49), g 49, aSet_keys hl _ _, by rw [aGet_aSet, if_pos rfl], ⟨rfl, rfl, rfl, trivial⟩, hw⟩
    · have h : aa.isNone = false := h
      have hg : aGet l p.Node = some (.slice aa na ca) := by
        rcases hcs with ⟨rfl, -⟩ | ⟨-, hg⟩
        · simp at h
        · exact hg
      repeat (first | refine byW ?_ | (refine byV ?_; intro w hw))
      exact ⟨l, _, hl, hg, ⟨rfl, rfl, rfl, trivial⟩, hw⟩
  · clear hw hva hcs
    rintro ρ w ⟨l', v, hl', hg', hρ, hw⟩
    rw [hρ.eq]
    clear hρ
    have hw := ds_find hl' hg' hw
    obtain ⟨aa, na, ca, rfl, hn, hnc, -⟩ := hw.own_shape (i := 0) rfl
    have hn : na = 64 := by rw [hn]; simp [intRows, distL]
    subst hn
    have hgd := distL_get (H := H) (s := p.Node) hy.1 hy.2
    have hw : Wd Γ (.own (.slice aa 64 ca) 3 1 (intRows (distL H p.Node)) :: .blk b9 (.cells (enc q).toArray 53) :: .blk b7 (.cells (enc p).toArray 53) :: btwB bb H a1 n1 c1 a2 n2 c2 a3 n3 c3 a4 n4 c4 a5 n5 c5 bm :: adjM bm l' :: ((restL l' p.Node).map (dsO H) ++ S)) w := hw
    have hlen : (distL H p.Node).length = 64 := by simp [distL]
    repeat (first | refine byW ?_ | (refine byV ?_; intro w hw))
    refine W_quiet (by kernel_rfl) (by kernel_rfl) hw ?_
    repeat (first | refine Q_nil ?_ | (apply Q_plain; first | (apply Q_go; first | refine qP ?_ | refine qPg ?_) | refine qY ?_) | (apply Q_guarded; first | (apply Q_go; first | refine qPG ?_ | refine qPgG ?_) | refine qG ?_))
    refine qY (v := .slice aa 64 ca) ?_ (hy := fun w hw => y_lookupZ hw (.inl hg') (i := 4) rfl rfl rfl)
    repeat (first | refine Q_nil ?_ | (apply Q_plain; first | (apply Q_go; first | refine qP ?_ | refine qPg ?_) | refine qY ?_) | (apply Q_guarded; first | (apply Q_go; first | refine qPG ?_ | refine qPgG ?_) | refine qG ?_))
    intro w hw
    repeat (first | refine byW ?_ | (refine byV ?_; intro w hw))
    have hw := ds_back (A := [.blk b9 (.cells (enc q).toArray 53), .blk b7 (.cells (enc p).toArray 53), btwB bb H a1 n1 c1 a2 n2 c2 a3 n3 c3 a4 n4 c4 a5 n5 c5 bm, adjM bm l']) hl' hg' hw
    exact ⟨_, rfl, rfl, l', hl', hw.ds [0, 0]⟩
end Go.Proofs.YteiijmclobggjaaGreat
end
/- Paths. -/
section
open Go Mk
namespace Go.Proofs.YteiijmclobggjaaGreat
set_option maxHeartbeats 8000000
attribute [local irreducible] Calls
def stepF (left : Int → Int) (c nx : Int) (q : Pl) : Int := if q.2 + left q.1 = left c ∧ (nx < 0 ∨ q.1 < nx) then q.1 else nx
def nextF (nb : Int → List Pl) (left : Int → Int) (c : Int) : Int := (nb c).foldl (stepF left c) (-1)
inductive PathP (nb : Int → List Pl) (left : Int → Int) (b : Int) : Int → List Int → Prop
  | nil : PathP nb left b b []
  | cons {c : Int} {l : List Int} : c ≠ b → PathP nb left b (nextF nb left c) l → PathP nb left b c (nextF nb left c :: l)
theorem fold_next {left : Int → Int} {c : Int} : ∀ (l : List Pl) (nx : Int), (nx = -1 ∨ 0 ≤ nx) → (∀ q ∈ l, 0 ≤ q.1) →
    (l.foldl (stepF left c) nx = nx ∧ ∀ q ∈ l, q.2 + left q.1 = left c → 0 ≤ nx ∧ nx ≤ q.1) ∨
    (∃ q ∈ l, q.2 + left q.1 = left c ∧ l.foldl (stepF left c) nx = q.1 ∧ (∀ r ∈ l, r.2 + left r.1 = left c → q.1 ≤ r.1) ∧ (0 ≤ nx → q.1 ≤ nx))
  | [], nx, _, _ => .inl ⟨rfl, by simp⟩
  | q :: l, nx, hx, hl => by
    have hq0 := hl q (by simp)
    rw [List.foldl_cons]
    by_cases e : q.2 + left q.1 = left c ∧ (nx < 0 ∨ q.1 < nx)
    · have hs : stepF left c nx q = q.1 := by unfold stepF; rw [if_pos e]
      rw [hs]
      rcases fold_next l q.1 (.inr hq0) (fun r hr => hl r (by simp [hr])) with ⟨h1, h2⟩ | ⟨r, hr, h1, h2, h3, h4⟩
      · refine .inr ⟨q, by simp, e.1, h1, fun r hr he => ?_, fun h0 => by omega⟩
        rcases List.mem_cons.1 hr with rfl | hr
        · omega
        · exact (h2 r hr he).2
      · refine .inr ⟨r, by simp [hr], h1, h2, fun t ht he => ?_, fun h0 => by have := h4 hq0; omega⟩
        rcases List.mem_cons.1 ht with rfl | ht
        · exact h4 hq0
        · exact h3 t ht he
    · have hs : stepF left c nx q = nx := by unfold stepF; rw [if_neg e]
      rw [hs]
      rcases fold_next l nx hx (fun r hr => hl r (by simp [hr])) with ⟨h1, h2⟩ | ⟨r, hr, h1, h2, h3, h4⟩
      · refine .inl ⟨h1, fun r hr he => ?_⟩
        rcases List.mem_cons.1 hr with rfl | hr
        · constructor <;> · have : ¬ (nx < 0 ∨ r.1 < nx) := fun hh => e ⟨he, hh⟩
                            omega
        · exact h2 r hr he
      · refine .inr ⟨r, by simp [hr], h1, h2, fun t ht he => ?_, h4⟩
        rcases List.mem_cons.1 ht with rfl | ht
        · have : ¬ (nx < 0 ∨ t.1 < nx) := fun hh => e ⟨he, hh⟩
          have := h4 (by omega)
          omega
        · exact h3 t ht he
theorem nbr_sym {ls : List LinkT} {x : Int} {q : Pl} (h : q ∈ nbrL ls x) : (x, q.2) ∈ nbrL ls q.1 := by
  unfold nbrL at h ⊢
  obtain ⟨l, hl, hq⟩ := List.mem_flatMap.1 h
  refine List.mem_flatMap.2 ⟨l, hl, ?_⟩
  rcases List.mem_append.1 hq with hq | hq
  · split at hq
    · rename_i e; simp only [List.mem_singleton] at hq; subst hq; subst e; simp
    · simp at hq
  · split at hq
    · rename_i e; simp only [List.mem_singleton] at hq; subst hq; subst e; simp
    · simp at hq
theorem nbr_pos {ls : List LinkT} {x : Int} {q : Pl} (hL : LinksOk ls) (h : q ∈ nbrL ls x) : 1 ≤ q.2 := by
  unfold nbrL at h
  obtain ⟨l, hl, hq⟩ := List.mem_flatMap.1 h
  have := hL.2 l hl
  rcases List.mem_append.1 hq with hq | hq <;>
  · split at hq
    · simp only [List.mem_singleton] at hq; subst hq; simp only []; omega
    · simp at hq
/-- From every node that is reached and is not the goal there is a next one. -/
theorem next_ok {ls : List LinkT} {b c : Int} {left : Int → Int} (hL : LinksOk ls) (hb : 0 ≤ b ∧ b < 64) (hl : ∀ x, 0 ≤ x → x < 64 → Dst (nbrL ls) b x (left x)) (hc : 0 ≤ c ∧ c < 64) (h0 : 0 ≤ left c) (hne : c ≠ b) :
    ∃ q ∈ nbrL ls c, q.2 + left q.1 = left c ∧ nextF (nbrL ls) left c = q.1 ∧ (∀ r ∈ nbrL ls c, r.2 + left r.1 = left c → q.1 ≤ r.1) ∧ 0 ≤ left q.1 ∧ 1 ≤ q.2 ∧ 0 ≤ q.1 ∧ q.1 < 64 := by
  have hn := nbr_ok hL hb
  have hex : ∃ q ∈ nbrL ls c, q.2 + left q.1 = left c := by
    rcases hl c hc.1 hc.2 with ⟨_, h1, h2⟩ | ⟨h1, -⟩
    · generalize hd : left c = d at *
      cases h1 with
      | refl => exact (hne rfl).elim
      | @step x d' q hx hq =>
        have hxr := hx.rng hn
        refine ⟨(x, q.2), nbr_sym hq, ?_⟩
        have hxn := hx.nonneg hn
        rcases hl x hxr.1 hxr.2 with ⟨_, k1, k2⟩ | ⟨_, k2⟩
        · have := k2 _ hx
          have := h2 _ (k1.step hq)
          simp only []
          omega
        · exact (k2 _ hx).elim
    · omega
  obtain ⟨q0, hq0, hq1⟩ := hex
  have hz := hn.rng c
  rcases fold_next (left := left) (c := c) (nbrL ls c) (-1) (.inl rfl) (fun q hq => (hz q hq).1) with ⟨h1, h2⟩ | ⟨q, hq, h1, h2, h3, -⟩
  · have := (h2 q0 hq0 hq1).1; omega
  · refine ⟨q, hq, h1, h2, h3, ?_, nbr_pos hL hq, (hz q hq).1, (hz q hq).2.1⟩
    rcases hl q.1 (hz q hq).1 (hz q hq).2.1 with ⟨k0, -, -⟩ | ⟨k1, k2⟩
    · exact k0
    · rcases hl c hc.1 hc.2 with ⟨_, m1, -⟩ | ⟨m1, -⟩
      · exact (k2 _ (m1.step hq)).elim
      · omega
end Go.Proofs.YteiijmclobggjaaGreat
end
/- Distances exist and are bounded. -/
section
open Go Mk
namespace Go.Proofs.YteiijmclobggjaaGreat

theorem Way.least {nb : Int → List Pl} {s L : Int} (hn : NbOk nb s L) {x : Int} : ∀ (n : Nat) (d : Int), Way nb s x d → d.toNat ≤ n → ∃ m, Way nb s x m ∧ ∀ d', Way nb s x d' → m ≤ d'
  | 0, d, h, hd => ⟨d, h, fun d' h' => by have := h'.nonneg hn; have := h.nonneg hn; omega⟩
  | n + 1, d, h, hd => by
    by_cases e : ∃ d', Way nb s x d' ∧ d' < d
    · obtain ⟨d', h', hlt⟩ := e
      have := h'.nonneg hn
      exact Way.least hn n d' h' (by omega)
    · exact ⟨d, h, fun d' h' => by
        by_cases hlt : d' < d
        · exact (e ⟨d', h', hlt⟩).elim
        · omega⟩
theorem dst_ex {nb : Int → List Pl} {s L : Int} (hn : NbOk nb s L) (x : Int) : Dst nb s x (dstI nb s x) := by
  have : ∃ d, Dst nb s x d := by
    by_cases h : ∃ d, Way nb s x d
    · obtain ⟨d, h⟩ := h
      obtain ⟨m, h1, h2⟩ := Way.least hn d.toNat d h (Nat.le_refl _)
      exact ⟨m, .inl ⟨h1.nonneg hn, h1, h2⟩⟩
    · exact ⟨-1, .inr ⟨rfl, fun d hd => h ⟨d, hd⟩⟩⟩
  obtain ⟨d, hd⟩ := this
  rw [hd.eq]; exact hd
/-- How many nodes are no farther than k. -/
noncomputable def cntD (nb : Int → List Pl) (s k : Int) : Nat := (List.range 64).countP fun y : Nat => decide (0 ≤ dstI nb s y) && decide (dstI nb s y ≤ k)
theorem countP_lt {α : Type} {p q : α → Bool} : ∀ (l : List α), (∀ x ∈ l, p x = true → q x = true) → (∃ x ∈ l, q x = true ∧ p x = false) → l.countP p + 1 ≤ l.countP q
  | [], _, ⟨x, hx, _⟩ => by simp at hx
  | y :: l, h, ⟨x, hx, h1, h2⟩ => by
    rw [List.countP_cons, List.countP_cons]
    have hle : l.countP p ≤ l.countP q := List.countP_mono_left fun x hx => h x (by simp [hx])
    have hy := h y (by simp)
    rcases List.mem_cons.1 hx with rfl | hx
    · rw [h1, h2]; simp; omega
    · have ih := countP_lt l (fun x hx => h x (by simp [hx])) ⟨x, hx, h1, h2⟩
      by_cases e : p y = true
      · rw [e, hy e]; simp; omega
      · have e : p y = false := by simpa using e
        rw [e]; simp only [Bool.false_eq_true, if_false]; omega
theorem dst_bound {ls : List LinkT} {s : Int} (hL : LinksOk ls) (hs : 0 ≤ s ∧ s < 64) : ∀ (n : Nat) (x : Int), (dstI (nbrL ls) s x).toNat ≤ n → 0 ≤ dstI (nbrL ls) s x → dstI (nbrL ls) s x + 1000000 ≤ 1000000 * (cntD (nbrL ls) s (dstI (nbrL ls) s x) : Int) := by
  have hn := nbr_ok hL hs
  have hself : ∀ x, 0 ≤ x → x < 64 → 0 ≤ dstI (nbrL ls) s x → 1 ≤ cntD (nbrL ls) s (dstI (nbrL ls) s x) := fun x h0 h1 hd => by
    unfold cntD
    refine List.countP_pos_iff.2 ⟨x.toNat, by simp; omega, ?_⟩
    rw [show ((x.toNat : Nat) : Int) = x by omega]
    simp [hd]
  intro n
  induction n with
  | zero =>
    intro x hx h0
    have hr : 0 ≤ x ∧ x < 64 := by
      rcases dst_ex hn x with ⟨-, h, -⟩ | ⟨h, -⟩
      · exact h.rng hn
      · omega
    have := hself x hr.1 hr.2 h0
    omega
  | succ n ih =>
    intro x hx h0
    rcases dst_ex hn x with ⟨-, hw, hmin⟩ | ⟨h, -⟩
    · have hr := hw.rng hn
      generalize hd : dstI (nbrL ls) s x = d at *
      cases hw with
      | refl =>
        have := hself s hs.1 hs.2 (by omega)
        rw [hd] at this
        omega
      | @step u d' q hu hq =>
        have hur := hu.rng hn
        have hqp := nbr_pos hL hq
        have hqr := hn.rng _ _ hq
        rcases dst_ex hn u with ⟨hu0, hu1, hu2⟩ | ⟨-, h⟩
        · have e1 := hu2 _ hu
          have e2 := hmin _ (hu1.step hq)
          have hi := ih u (by omega) hu0
          have hc : cntD (nbrL ls) s (dstI (nbrL ls) s u) + 1 ≤ cntD (nbrL ls) s (d' + q.2) := by
            unfold cntD
            refine countP_lt _ (fun y _ hy => ?_) ⟨q.1.toNat, by simp; omega, ?_, ?_⟩
            · simp at hy ⊢; omega
            · rw [show ((q.1.toNat : Nat) : Int) = q.1 by omega, hd]; simp; omega
            · rw [show ((q.1.toNat : Nat) : Int) = q.1 by omega, hd]; simp; omega
          omega
        · exact (h _ hu).elim
    · omega
theorem dst_le {ls : List LinkT} {s x : Int} (hL : LinksOk ls) (hs : 0 ≤ s ∧ s < 64) : -1 ≤ dstI (nbrL ls) s x ∧ dstI (nbrL ls) s x ≤ 63000000 := by
  have hn := nbr_ok hL hs
  rcases dst_ex hn x with ⟨h0, -⟩ | ⟨h, -⟩
  · have := dst_bound hL hs _ x (Nat.le_refl _) h0
    have h64 : cntD (nbrL ls) s (dstI (nbrL ls) s x) ≤ 64 := by
      unfold cntD; exact Nat.le_trans List.countP_le_length (by simp)
    omega
  · omega
end Go.Proofs.YteiijmclobggjaaGreat
end
/- Distance is a metric. -/
section
open Go Mk
namespace Go.Proofs.YteiijmclobggjaaGreat

theorem Way.trans {nb : Int → List Pl} {s x d : Int} (h : Way nb s x d) {y e : Int} (k : Way nb x y e) : Way nb s y (d + e) := by
  induction k with
  | refl => rw [Int.add_zero]; exact h
  | step _ hq ih => rw [← Int.add_assoc]; exact ih.step hq
theorem Way.one {nb : Int → List Pl} {x : Int} {q : Pl} (h : q ∈ nb x) : Way nb x q.1 q.2 := by
  have := (Way.refl (nb := nb) (s := x)).step h
  rwa [Int.zero_add] at this
theorem Way.symm {ls : List LinkT} {s x d : Int} (h : Way (nbrL ls) s x d) : Way (nbrL ls) x s d := by
  induction h with
  | refl => exact .refl
  | @step x d q _ hq ih =>
    have := (Way.one (nbr_sym hq)).trans ih
    simp only [] at this
    rwa [Int.add_comm] at this
theorem mem_nbr_ab {ls : List LinkT} {l : LinkT} (h : l ∈ ls) : (l.B, l.Latency) ∈ nbrL ls l.A := List.mem_flatMap.2 ⟨l, h, by simp⟩
theorem mem_nbr_ba {ls : List LinkT} {l : LinkT} (h : l ∈ ls) : (l.A, l.Latency) ∈ nbrL ls l.B := List.mem_flatMap.2 ⟨l, h, by simp⟩
theorem reach_way {ls : List LinkT} {s x : Int} (h : Reach ls s x) : ∃ d, Way (nbrL ls) s x d := by
  induction h with
  | refl => exact ⟨0, .refl⟩
  | ab hl _ ih => obtain ⟨d, ih⟩ := ih; exact ⟨_, ih.step (mem_nbr_ab hl)⟩
  | ba hl _ ih => obtain ⟨d, ih⟩ := ih; exact ⟨_, ih.step (mem_nbr_ba hl)⟩
theorem dstI_reach {ls : List LinkT} {s a b : Int} (hL : LinksOk ls) (ha : 0 ≤ a ∧ a < 64) (h1 : Reach ls s a) (h2 : Reach ls s b) : 0 ≤ dstI (nbrL ls) a b := by
  obtain ⟨d, h1⟩ := reach_way h1
  obtain ⟨e, h2⟩ := reach_way h2
  rcases dst_ex (nbr_ok hL ha) b with ⟨h, -⟩ | ⟨-, h⟩
  · exact h
  · exact (h _ (h1.symm.trans h2)).elim
end Go.Proofs.YteiijmclobggjaaGreat
end
/- What is asked of a root and of members. -/
section
open Go Mk
namespace Go.Proofs.YteiijmclobggjaaGreat
set_option maxHeartbeats 8000000
attribute [local irreducible] Calls
theorem s_insert {P : Program} {d : Option Tmp} {T ty : TypeId} {pos : String} {es : Array Edge} {g : Option (Nat × Bool)} {x y z : Operand} {ρ : Fr} {w : World} {K : Value → World → Prop} (h : Step P ⟨d, .mapUpdate T x y z, ty, pos, es, g⟩ ρ w K) : Step P ⟨d, .insert T x y z, ty, pos, es, g⟩ ρ w K := by
  unfold Step execOp at h ⊢
  exact h
theorem ints1 (xs : List Int) : (intRows xs).flatten.all (·.oneCell') = true := by
  induction xs with
  | nil => rfl
  | cons x xs ih => simp only [intRows, List.map_cons, List.flatten_cons, List.all_append] at ih ⊢; rw [ih]; rfl
class ShortL {α : Type} (l : List α) : Prop where h : l.length ≤ 1000
noncomputable def memErr (H : HwT) (r : Int) (ms : List Int) : Int := if (r :: ms).all (fun id => (findC H.Cores id).2) = false then 57 else if decP (r :: ms).Nodup = false then 56 else 0
instance pg_members {Γ : Gho} {u v : Value} {H : HwT} [hh : HwR Γ u H] {ms : List Int} [hr : SlC Γ v 1 (intRows ms)] [hsh : ShortL ms] (r : Int) : PG Tryz.prog Γ 29 [u, .int .i64 r, v] (.int .i64 (memErr H r ms)) := ⟨fun S w hw => by
  have hh' := hh
  obtain ⟨a1, n1, c1, a2, n2, c2, a3, n3, c3, a4, n4, c4, a5, n5, c5, cs, rfl, -⟩ := hh.h
  have hrs := hr.h
  obtain ⟨am, nm, cm, rfl, hnm, hnmc, hcm⟩ := hr.h.shape
  simp only [intRows, List.length_map] at hnm
  refine calls_of_W Tryz.func29 rfl rfl ?_
  repeat (first | refine byW ?_ | (refine byV ?_; intro w hw))
  refine lBox ?_
  intro b3 w hw
  have hw : Wd Γ (.blk b3 (.cells #[.string H.Name, .slice a1 n1 c1, .slice a2 n2 c2, .slice a3 n3 c3, .slice a4 n4 c4, .slice a5 n5 c5] 28) :: S) w := hw
  repeat (first | refine byW ?_ | (refine byV ?_; intro w hw))
  refine lBuildSlice [[.int .i64 r]] ?_
  intro ar w hw
  have hw : Wd Γ (.own (.slice (some ar) 1 1) 3 1 (intRows [r]) :: .blk b3 (.cells #[.string H.Name, .slice a1 n1 c1, .slice a2 n2 c2, .slice a3 n3 c3, .slice a4 n4 c4, .slice a5 n5 c5] 28) :: S) w := hw
  repeat (first | refine byW ?_ | (refine byV ?_; intro w hw))
  have hms := hsh.h
  refine lApp (i := 0) (rows2 := intRows ms) ?_ (hrs.rd hw) rfl rfl hw rfl (ints1 ms) (by simp [intRows]; omega)
  intro v' w hw
  obtain ⟨a0, n0, c0, rfl, hn0, hnc0, -⟩ := hw.own_shape (i := 0) rfl
  have hn0 : n0 = ms.length + 1 := by rw [hn0]; simp [intRows]
  have hw : Wd Γ (.own (.slice a0 n0 c0) 3 1 (intRows (r :: ms)) :: .blk b3 (.cells #[.string H.Name, .slice a1 n1 c1, .slice a2 n2 c2, .slice a3 n3 c3, .slice a4 n4 c4, .slice a5 n5 c5] 28) :: S) w := hw
  unfold memErr
  repeat (first | refine byW ?_ | (refine byV ?_; intro w hw))
  refine W_loop (fun μ ρ w => ∃ (k : Nat), μ + k = n0 ∧ Has ρ [(1, .int .i64 r), (2, .slice am nm cm), (3, .pointer (some ⟨b3, 0, none⟩)), (17, .slice a0 n0 c0), (18, .int .i64 n0), (19, .int .i64 k)] ∧ (∀ i x, i < k → (r :: ms)[i]? = some x → (fun id => (findC H.Cores id).2) x = true) ∧ Wd Γ (.own (.slice a0 n0 c0) 3 1 (intRows (r :: ms)) :: .blk b3 (.cells #[.string H.Name, .slice a1 n1 c1, .slice a2 n2 c2, .slice a3 n3 c3, .slice a4 n4 c4, .slice a5 n5 c5] 28) :: S) w) n0 ⟨0, by omega, ⟨rfl, rfl, rfl, rfl, rfl, rfl, trivial⟩, fun i x h => by omega, hw⟩ ?_
  clear hw
  rintro μ ρ w ⟨k, hk, hρ, hall, hw⟩
  rw [hρ.eq]
  clear hρ
  repeat (first | refine byW ?_ | (refine byV ?_; intro w hw))
  refine W_cond rfl (fun h => ?_) (fun h => ?_)
  · have hkn : k < n0 := by have := of_decide_eq_true h; omega
    obtain ⟨x, hx⟩ := get_lt (l := r :: ms) (k := k) (by simp; omega)
    have hxl : (r :: ms).length = ms.length + 1 := rfl
    repeat (first | refine byW ?_ | (refine byV ?_; intro w hw))
    refine lAlloc ?_
    intro b9 w hw
    refine lStore ?_
    intro w hw
    have hw : Wd Γ (.own (.slice a0 n0 c0) 3 1 (intRows (r :: ms)) :: .blk b3 (.cells #[.string H.Name, .slice a1 n1 c1, .slice a2 n2 c2, .slice a3 n3 c3, .slice a4 n4 c4, .slice a5 n5 c5] 28) :: S) w := Wd.drop hw
    repeat (first | refine byW ?_ | (refine byV ?_; intro w hw))
    refine W_cond rfl (fun h2 => ?_) (fun h2 => ?_)
    · have h2 : (!(findC H.Cores x).2) = true := h2
      rw [if_pos (all_no (p := fun id => (findC H.Cores id).2) hx (by simpa using h2))]
      repeat (first | refine byW ?_ | (refine byV ?_; intro w hw))
      exact ⟨_, rfl, rfl, hw.ds [0, 0]⟩
    · have h2 : (!(findC H.Cores x).2) = false := h2
      repeat (first | refine byW ?_ | (refine byV ?_; intro w hw))
      exact ⟨μ - 1, by omega, k + 1, by omega, ⟨rfl, rfl, rfl, rfl, rfl, rfl, trivial⟩, all_step (p := fun id => (findC H.Cores id).2) hall hx (by simpa using h2), hw⟩
  have hkn : ¬ k < n0 := by have := of_decide_eq_false h; omega
  rw [if_neg (by rw [all_end (p := fun id => (findC H.Cores id).2) hall (by simp; omega)]; simp)]
  clear h hkn hall hk
  repeat (first | refine byW ?_ | (refine byV ?_; intro w hw))
  refine L_step rfl rfl (s_makeMap (K := 3) (α := Int) (f := Value.bool) hw fun bm w hw => ?_)
  repeat (first | refine byW ?_ | (refine byV ?_; intro w hw))
  refine L_step rfl rfl (s_insert (s_mapUpdate (P := Tryz.prog) (K := 3) (α := Int) (f := Value.bool) (i := 0) (v := true) (a := r) hw rfl rfl rfl rfl fun w hw => ?_))
  rw [show ([] : List (Int × Bool)) = seenL ([] : List Int) from rfl, seen_set (by simp)] at hw
  have hw : Wd Γ (Res.mpT Tryz.prog 3 Value.bool bm (seenL (r :: ms.take 0)) :: S) w := hw.ds [1, 1]
  repeat (first | refine byW ?_ | (refine byV ?_; intro w hw))
  refine W_loop (fun μ ρ w => ∃ (k : Nat), μ + k = nm ∧ Has ρ [(11, .map (some bm)), (35, .slice am nm cm), (36, .int .i64 nm), (37, .int .i64 k)] ∧ (r :: ms.take k).Nodup ∧ Wd Γ (Res.mpT Tryz.prog 3 Value.bool bm (seenL (r :: ms.take k)) :: S) w) nm ⟨0, by omega, ⟨rfl, rfl, rfl, rfl, trivial⟩, by simp, hw⟩ ?_
  clear hw
  rintro μ ρ w ⟨k, hk, hρ, hnd, hw⟩
  rw [hρ.eq]
  clear hρ
  repeat (first | refine byW ?_ | (refine byV ?_; intro w hw))
  refine W_cond rfl (fun h => ?_) (fun h => ?_)
  · have hkn : k < nm := by have := of_decide_eq_true h; omega
    obtain ⟨x, hx⟩ := get_lt (l := ms) (k := k) (by omega)
    repeat (first | refine byW ?_ | (refine byV ?_; intro w hw))
    letI hdm : Decidable (x ∈ r :: ms.take k) := Classical.propDecidable _
    refine L_y rfl rfl (v := .bool (decide (x ∈ r :: ms.take k))) ?_ ?_
    · by_cases hm : x ∈ r :: ms.take k
      · rw [decide_eq_true hm]
        exact y_lookup_some (P := Tryz.prog) (K := 3) (α := Int) (f := Value.bool) (i := 0) hw rfl rfl rfl (seen_some hm) false
      · rw [decide_eq_false hm]
        exact y_lookup_none (P := Tryz.prog) (K := 3) (α := Int) (f := Value.bool) (i := 0) hw rfl rfl rfl (seen_none hm) false
    have hx1 : (r :: ms)[k + 1]? = some x := hx
    have ht1 : (r :: ms).take (k + 1) = r :: ms.take k := rfl
    repeat (first | refine byW ?_ | (refine byV ?_; intro w hw))
    refine W_cond rfl (fun h2 => ?_) (fun h2 => ?_)
    · have hm : x ∈ r :: ms.take k := by simpa using h2
      rw [if_pos (decP_f (not_nodup_at hx1 (by rw [ht1]; exact hm)))]
      repeat (first | refine byW ?_ | (refine byV ?_; intro w hw))
      exact ⟨_, rfl, rfl, hw.drop⟩
    · have hm : x ∉ r :: ms.take k := by simpa using h2
      repeat (first | refine byW ?_ | (refine byV ?_; intro w hw))
      refine L_step rfl rfl (s_mapUpdate (P := Tryz.prog) (K := 3) (α := Int) (f := Value.bool) (i := 0) (v := true) hw rfl rfl rfl rfl fun w hw => ?_)
      rw [seen_set hm, List.cons_append, ← take_succ_of hx] at hw
      repeat (first | refine byW ?_ | (refine byV ?_; intro w hw))
      exact ⟨μ - 1, by omega, k + 1, by omega, ⟨rfl, rfl, rfl, rfl, trivial⟩, by rw [take_succ_of hx, ← List.cons_append]; exact nodup_snoc.2 ⟨hnd, hm⟩, hw⟩
  · have hkn : ¬ k < nm := by have := of_decide_eq_false h; omega
    rw [List.take_of_length_le (by omega)] at hnd
    rw [if_neg (by rw [decP_t hnd]; simp)]
    repeat (first | refine byW ?_ | (refine byV ?_; intro w hw))
    exact ⟨_, rfl, rfl, hw.drop⟩⟩
end Go.Proofs.YteiijmclobggjaaGreat
end
/- Trees: route.Validate. -/
section
open Go Mk
namespace Go.Proofs.YteiijmclobggjaaGreat
set_option maxHeartbeats 8000000
attribute [local irreducible] Calls
theorem seen_set_any {d : List Int} {x : Int} : ∃ d', aSet (seenL d) x true = seenL d' ∧ ∀ y, y ∈ d' ↔ y ∈ d ∨ y = x := by
  by_cases h : x ∈ d
  · refine ⟨d, ?_, fun y => ⟨.inl, fun hy => by rcases hy with hy | rfl; exact hy; exact h⟩⟩
    unfold aSet
    cases hi : aIx (seenL d) x with
    | none => have := seen_ix.2 h; rw [hi] at this; cases this
    | some i =>
      obtain ⟨v, hv⟩ := aIx_get hi
      obtain ⟨y, hy, he⟩ := List.mem_map.1 (List.mem_of_getElem? hv)
      cases he
      refine List.ext_getElem? fun k => ?_
      rw [List.getElem?_set]
      split
      · rename_i e; subst e
        split
        · exact hv.symm
        · rename_i hlt; exact absurd (List.getElem?_eq_some_iff.1 hv).1 hlt
      · rfl
  · exact ⟨d ++ [x], seen_set h, fun y => by simp⟩
def DoneAt (es : List Pl) (i : Nat) (x : Int) : Prop := ∃ (j : Nat) (a b : Pl), j + 1 ≤ i ∧ es[j]? = some a ∧ es[j + 1]? = some b ∧ a.1 ≠ b.1 ∧ a.1 = x
def ProtoP (r : Int) (es : List Pl) : Prop := ∀ (i : Nat) (e : Pl), es[i]? = some e → e.1 ∈ r :: (es.take i).map (·.2) ∧ ¬ DoneAt es i e.1
theorem done_step {es : List Pl} {k : Nat} {x y : Pl} (hx : es[k]? = some x) (hy : 0 < k → es[k - 1]? = some y) (z : Int) : DoneAt es k z ↔ DoneAt es (k - 1) z ∨ (0 < k ∧ y.1 ≠ x.1 ∧ y.1 = z) := by
  constructor
  · rintro ⟨j, a, b, h1, h2, h3, h4, h5⟩
    by_cases e : j + 1 = k
    · right
      have hj : j = k - 1 := by omega
      subst hj
      have h0 : 0 < k := by omega
      rw [hy h0] at h2; cases h2
      rw [e, hx] at h3; cases h3
      exact ⟨h0, h4, h5⟩
    · exact .inl ⟨j, a, b, by omega, h2, h3, h4, h5⟩
  · rintro (⟨j, a, b, h1, h2, h3, h4, h5⟩ | ⟨h0, h1, h2⟩)
    · exact ⟨j, a, b, by omega, h2, h3, h4, h5⟩
    · exact ⟨k - 1, y, x, by omega, hy h0, by rw [show k - 1 + 1 = k by omega]; exact hx, h1, h2⟩
def knownT (H : HwT) (e : Pl) : Bool := (findC H.Cores e.1).2 && (findC H.Cores e.2).2
noncomputable def treeErr (H : HwT) (r : Int) (es : List Pl) : Int :=
  if validS H = 0 then (if ((findC H.Cores r).2 && es.all (knownT H)) = true then (if decP (r :: es.map (·.2)).Nodup = true then (if decP (ProtoP r es) = true then 0 else 66) else 56) else 57) else validS H
instance pg_VTree {Γ : Gho} {u v : Value} {H : HwT} [hh : HwR Γ u H] {es : List Pl} [hr : SlC Γ v 2 (es.map plV)] [hsh : ShortL es] (r : Int) : PG Tryz.prog Γ 19 [u, .agg #[.int .i64 r, v]] (.int .i64 (treeErr H r es)) := ⟨fun S w hw => by
  have hh' := hh
  obtain ⟨a1, n1, c1, a2, n2, c2, a3, n3, c3, a4, n4, c4, a5, n5, c5, cs, rfl, -⟩ := hh.h
  have hrs := hr.h
  obtain ⟨am, nm, cm, rfl, hnm, hnmc, hcm⟩ := hr.h.shape
  simp only [List.length_map] at hnm
  have hms := hsh.h
  refine calls_of_W Tryz.func19 rfl rfl ?_
  repeat (first | refine byW ?_ | (refine byV ?_; intro w hw))
  refine lBox ?_
  intro b2 w hw
  refine lBox ?_
  intro b3 w hw
  have hw : Wd Γ (.blk b3 (.cells #[.int .i64 r, .slice am nm cm] 32) :: .blk b2 (.cells #[.string H.Name, .slice a1 n1 c1, .slice a2 n2 c2, .slice a3 n3 c3, .slice a4 n4 c4, .slice a5 n5 c5] 28) :: S) w := hw
  unfold treeErr
  repeat (first | refine byW ?_ | (refine byV ?_; intro w hw))
  refine W_cond rfl (fun h => ?_) (fun h => ?_)
  · have h : ¬ validS H = 0 := by simpa using h
    rw [if_neg h]
    repeat (first | refine byW ?_ | (refine byV ?_; intro w hw))
    exact ⟨_, rfl, rfl, hw.ds [0, 0]⟩
  have h : validS H = 0 := by simpa using h
  rw [if_pos h]
  clear h
  repeat (first | refine byW ?_ | (refine byV ?_; intro w hw))
  refine W_loop (fun μ ρ w => ∃ (k : Nat), μ + k = nm ∧ Has ρ [(2, .pointer (some ⟨b2, 0, none⟩)), (3, .pointer (some ⟨b3, 0, none⟩)), (6, .bool ((findC H.Cores r).2 && (es.take k).all (knownT H))), (33, .slice am nm cm), (34, .int .i64 nm), (35, .int .i64 k)] ∧ Wd Γ (.blk b3 (.cells #[.int .i64 r, .slice am nm cm] 32) :: .blk b2 (.cells #[.string H.Name, .slice a1 n1 c1, .slice a2 n2 c2, .slice a3 n3 c3, .slice a4 n4 c4, .slice a5 n5 c5] 28) :: S) w) nm ⟨0, by omega, ⟨rfl, rfl, by rw [List.take_zero, List.all_nil, Bool.and_true]; rfl, rfl, rfl, rfl, trivial⟩, hw⟩ ?_
  clear hw
  rintro μ ρ w ⟨k, hk, hρ, hw⟩
  rw [hρ.eq]
  clear hρ
  repeat (first | refine byW ?_ | (refine byV ?_; intro w hw))
  refine W_cond rfl (fun h => ?_) (fun h => ?_)
  · have hkn : k < nm := by have := of_decide_eq_true h; omega
    obtain ⟨x, hx⟩ := get_lt (l := es) (k := k) (by omega)
    repeat (first | refine byW ?_ | (refine byV ?_; intro w hw))
    refine lAlloc ?_
    intro b8 w hw
    refine lStore ?_
    intro w hw
    have hw : Wd Γ (.blk b8 (.cells (plV x).toArray 60) :: .blk b3 (.cells #[.int .i64 r, .slice am nm cm] 32) :: .blk b2 (.cells #[.string H.Name, .slice a1 n1 c1, .slice a2 n2 c2, .slice a3 n3 c3, .slice a4 n4 c4, .slice a5 n5 c5] 28) :: S) w := hw
    repeat (first | refine byW ?_ | (refine byV ?_; intro w hw))
    refine lAlloc ?_
    intro b9 w hw
    refine lStore ?_
    intro w hw
    repeat (first | refine byW ?_ | (refine byV ?_; intro w hw))
    refine lAlloc ?_
    intro b11 w hw
    refine lStore ?_
    intro w hw
    have hw : Wd Γ (.blk b3 (.cells #[.int .i64 r, .slice am nm cm] 32) :: .blk b2 (.cells #[.string H.Name, .slice a1 n1 c1, .slice a2 n2 c2, .slice a3 n3 c3, .slice a4 n4 c4, .slice a5 n5 c5] 28) :: S) w := hw.ds [0, 0, 0]
    repeat (first | refine byW ?_ | (refine byV ?_; intro w hw))
    refine ⟨μ - 1, by omega, k + 1, by omega, ⟨rfl, rfl, ?_, rfl, rfl, rfl, trivial⟩, hw⟩
    rw [take_succ_of hx, List.all_append, ← Bool.and_assoc]
    simp only [List.all_cons, List.all_nil, Bool.and_true]
    unfold knownT
    rw [← Bool.and_assoc]; rfl
  have hkn : ¬ k < nm := by have := of_decide_eq_false h; omega
  rw [List.take_of_length_le (by omega)]
  clear h hkn hk
  repeat (first | refine byW ?_ | (refine byV ?_; intro w hw))
  refine W_cond rfl (fun h => ?_) (fun h => ?_)
  · have h : (!((findC H.Cores r).2 && es.all (knownT H))) = true := h
    rw [if_neg (fun hh => by rw [hh] at h; cases h)]
    repeat (first | refine byW ?_ | (refine byV ?_; intro w hw))
    exact ⟨_, rfl, rfl, hw.ds [0, 0]⟩
  have h : (!((findC H.Cores r).2 && es.all (knownT H))) = false := h
  rw [if_pos (by cases hb : ((findC H.Cores r).2 && es.all (knownT H)) with | true => rfl | false => rw [hb] at h; cases h)]
  clear h
  repeat (first | refine byW ?_ | (refine byV ?_; intro w hw))
  refine L_step rfl rfl (s_makeMap (K := 3) (α := Int) (f := Value.bool) hw fun bm w hw => ?_)
  have hw := hw.ps [1]
  repeat (first | refine byW ?_ | (refine byV ?_; intro w hw))
  refine L_step rfl rfl (s_insert (s_mapUpdate (P := Tryz.prog) (K := 3) (α := Int) (f := Value.bool) (i := 1) (v := true) (a := r) hw rfl rfl rfl rfl fun w hw => ?_))
  rw [show ([] : List (Int × Bool)) = seenL ([] : List Int) from rfl, seen_set (by simp)] at hw
  have hw : Wd Γ (Res.mpT Tryz.prog 3 Value.bool bm (seenL (r :: (es.take 0).map (·.2))) :: .blk b3 (.cells #[.int .i64 r, .slice am nm cm] 32) :: .blk b2 (.cells #[.string H.Name, .slice a1 n1 c1, .slice a2 n2 c2, .slice a3 n3 c3, .slice a4 n4 c4, .slice a5 n5 c5] 28) :: S) w := hw.ps [1]
  repeat (first | refine byW ?_ | (refine byV ?_; intro w hw))
  refine W_loop (fun μ ρ w => ∃ (k : Nat), μ + k = nm ∧ Has ρ [(3, .pointer (some ⟨b3, 0, none⟩)), (13, .map (some bm)), (68, .slice am nm cm), (69, .int .i64 nm), (70, .int .i64 k)] ∧ (r :: (es.take k).map (·.2)).Nodup ∧ Wd Γ (Res.mpT Tryz.prog 3 Value.bool bm (seenL (r :: (es.take k).map (·.2))) :: .blk b3 (.cells #[.int .i64 r, .slice am nm cm] 32) :: .blk b2 (.cells #[.string H.Name, .slice a1 n1 c1, .slice a2 n2 c2, .slice a3 n3 c3, .slice a4 n4 c4, .slice a5 n5 c5] 28) :: S) w) nm ⟨0, by omega, ⟨rfl, rfl, rfl, rfl, rfl, trivial⟩, by simp, hw⟩ ?_
  clear hw
  rintro μ ρ w ⟨k, hk, hρ, hnd, hw⟩
  rw [hρ.eq]
  clear hρ
  repeat (first | refine byW ?_ | (refine byV ?_; intro w hw))
  refine W_cond rfl (fun h => ?_) (fun h => ?_)
  · have hkn : k < nm := by have := of_decide_eq_true h; omega
    obtain ⟨x, hx⟩ := get_lt (l := es) (k := k) (by omega)
    repeat (first | refine byW ?_ | (refine byV ?_; intro w hw))
    refine lAlloc ?_
    intro b15 w hw
    refine lStore ?_
    intro w hw
    have hw : Wd Γ (.blk b15 (.cells (plV x).toArray 60) :: Res.mpT Tryz.prog 3 Value.bool bm (seenL (r :: (es.take k).map (·.2))) :: .blk b3 (.cells #[.int .i64 r, .slice am nm cm] 32) :: .blk b2 (.cells #[.string H.Name, .slice a1 n1 c1, .slice a2 n2 c2, .slice a3 n3 c3, .slice a4 n4 c4, .slice a5 n5 c5] 28) :: S) w := hw
    repeat (first | refine byW ?_ | (refine byV ?_; intro w hw))
    letI hdm : Decidable (x.2 ∈ r :: (es.take k).map (·.2)) := Classical.propDecidable _
    refine L_y rfl rfl (v := .bool (decide (x.2 ∈ r :: (es.take k).map (·.2)))) ?_ ?_
    · by_cases hm : x.2 ∈ r :: (es.take k).map (·.2)
      · rw [decide_eq_true hm]
        exact y_lookup_some (P := Tryz.prog) (K := 3) (α := Int) (f := Value.bool) (i := 1) hw rfl rfl rfl (seen_some hm) false
      · rw [decide_eq_false hm]
        exact y_lookup_none (P := Tryz.prog) (K := 3) (α := Int) (f := Value.bool) (i := 1) hw rfl rfl rfl (seen_none hm) false
    have hx1 : (r :: es.map (·.2))[k + 1]? = some x.2 := by simp [hx]
    have ht1 : (r :: es.map (·.2)).take (k + 1) = r :: (es.take k).map (·.2) := by simp [List.map_take]
    have ht2 : r :: (es.take (k + 1)).map (·.2) = (r :: (es.take k).map (·.2)) ++ [x.2] := by rw [take_succ_of hx]; simp
    repeat (first | refine byW ?_ | (refine byV ?_; intro w hw))
    refine W_cond rfl (fun h2 => ?_) (fun h2 => ?_)
    · have hm : x.2 ∈ r :: (es.take k).map (·.2) := by simpa using h2
      rw [if_neg (by rw [decP_f (not_nodup_at hx1 (by rw [ht1]; exact hm))]; simp)]
      repeat (first | refine byW ?_ | (refine byV ?_; intro w hw))
      exact ⟨_, rfl, rfl, hw.ds [0, 0, 0, 0]⟩
    · have hm : x.2 ∉ r :: (es.take k).map (·.2) := by simpa using h2
      repeat (first | refine byW ?_ | (refine byV ?_; intro w hw))
      refine L_step rfl rfl (s_mapUpdate (P := Tryz.prog) (K := 3) (α := Int) (f := Value.bool) (i := 1) (v := true) hw rfl rfl rfl rfl fun w hw => ?_)
      rw [seen_set hm, ← ht2] at hw
      have hw : Wd Γ (Res.mpT Tryz.prog 3 Value.bool bm (seenL (r :: (es.take (k + 1)).map (·.2))) :: .blk b3 (.cells #[.int .i64 r, .slice am nm cm] 32) :: .blk b2 (.cells #[.string H.Name, .slice a1 n1 c1, .slice a2 n2 c2, .slice a3 n3 c3, .slice a4 n4 c4, .slice a5 n5 c5] 28) :: S) w := hw.drop
      repeat (first | refine byW ?_ | (refine byV ?_; intro w hw))
      exact ⟨μ - 1, by omega, k + 1, by omega, ⟨rfl, rfl, rfl, rfl, rfl, trivial⟩, by rw [ht2]; exact nodup_snoc.2 ⟨hnd, hm⟩, hw⟩
  have hkn : ¬ k < nm := by have := of_decide_eq_false h; omega
  rw [List.take_of_length_le (by omega)] at hnd
  rw [if_pos (decP_t hnd)]
  have hw : Wd Γ (.blk b3 (.cells #[.int .i64 r, .slice am nm cm] 32) :: .blk b2 (.cells #[.string H.Name, .slice a1 n1 c1, .slice a2 n2 c2, .slice a3 n3 c3, .slice a4 n4 c4, .slice a5 n5 c5] 28) :: S) w := hw.drop
  clear h hkn hk
  repeat (first | refine byW ?_ | (refine byV ?_; intro w hw))
  refine L_step rfl rfl (s_makeMap (K := 3) (α := Int) (f := Value.bool) hw fun bs w hw => ?_)
  have hw := hw.ps [1]
  repeat (first | refine byW ?_ | (refine byV ?_; intro w hw))
  refine L_step rfl rfl (s_insert (s_mapUpdate (P := Tryz.prog) (K := 3) (α := Int) (f := Value.bool) (i := 1) (v := true) (a := r) hw rfl rfl rfl rfl fun w hw => ?_))
  rw [show ([] : List (Int × Bool)) = seenL ([] : List Int) from rfl, seen_set (by simp)] at hw
  have hw : Wd Γ (Res.mpT Tryz.prog 3 Value.bool bs (seenL (r :: (es.take 0).map (·.2))) :: .blk b3 (.cells #[.int .i64 r, .slice am nm cm] 32) :: .blk b2 (.cells #[.string H.Name, .slice a1 n1 c1, .slice a2 n2 c2, .slice a3 n3 c3, .slice a4 n4 c4, .slice a5 n5 c5] 28) :: S) w := hw.ps [1]
  repeat (first | refine byW ?_ | (refine byV ?_; intro w hw))
  refine L_step rfl rfl (s_makeMap (K := 3) (α := Int) (f := Value.bool) hw fun bd w hw => ?_)
  have hw : Wd Γ (Res.mpT Tryz.prog 3 Value.bool bd (seenL ([] : List Int)) :: Res.mpT Tryz.prog 3 Value.bool bs (seenL (r :: (es.take 0).map (·.2))) :: .blk b3 (.cells #[.int .i64 r, .slice am nm cm] 32) :: .blk b2 (.cells #[.string H.Name, .slice a1 n1 c1, .slice a2 n2 c2, .slice a3 n3 c3, .slice a4 n4 c4, .slice a5 n5 c5] 28) :: S) w := hw
  repeat (first | refine byW ?_ | (refine byV ?_; intro w hw))
  refine W_loop (fun μ ρ w => ∃ (k : Nat) (d : List Int), μ + k = nm ∧ Has ρ [(3, .pointer (some ⟨b3, 0, none⟩)), (16, .map (some bs)), (17, .map (some bd)), (88, .slice am nm cm), (89, .int .i64 nm), (90, .int .i64 k)] ∧ (∀ y, y ∈ d ↔ DoneAt es (k - 1) y) ∧ (∀ i e, i < k → es[i]? = some e → e.1 ∈ r :: (es.take i).map (·.2) ∧ ¬ DoneAt es i e.1) ∧ Wd Γ (Res.mpT Tryz.prog 3 Value.bool bd (seenL d) :: Res.mpT Tryz.prog 3 Value.bool bs (seenL (r :: (es.take k).map (·.2))) :: .blk b3 (.cells #[.int .i64 r, .slice am nm cm] 32) :: .blk b2 (.cells #[.string H.Name, .slice a1 n1 c1, .slice a2 n2 c2, .slice a3 n3 c3, .slice a4 n4 c4, .slice a5 n5 c5] 28) :: S) w) nm ⟨0, [], by omega, ⟨rfl, rfl, rfl, rfl, rfl, rfl, trivial⟩, fun y => ⟨fun h => by simp at h, fun ⟨j, _, _, h, _⟩ => by omega⟩, fun i e h => by omega, hw⟩ ?_
  clear hw
  rintro μ ρ w ⟨k, d, hk, hρ, hd, hall, hw⟩
  rw [hρ.eq]
  clear hρ
  repeat (first | refine byW ?_ | (refine byV ?_; intro w hw))
  refine W_cond rfl (fun h => ?_) (fun h => ?_)
  · have hkn : k < nm := by have := of_decide_eq_true h; omega
    obtain ⟨x, hx⟩ := get_lt (l := es) (k := k) (by omega)
    obtain ⟨y, hy⟩ : ∃ y : Pl, 0 < k → es[((k : Int) - 1).toNat]? = some y := by
      by_cases h0 : 0 < k
      · obtain ⟨y, hy⟩ := get_lt (l := es) (k := ((k : Int) - 1).toNat) (by omega)
        exact ⟨y, fun _ => hy⟩
      · exact ⟨x, fun h => absurd h h0⟩
    repeat (first | refine byW ?_ | (refine byV ?_; intro w hw))
    refine lAlloc ?_
    intro b19 w hw
    repeat (first | refine byW ?_ | (refine byV ?_; intro w hw))
    refine lStore ?_
    intro w hw
    have hw : Wd Γ (.blk b19 (.cells (plV x).toArray 60) :: Res.mpT Tryz.prog 3 Value.bool bd (seenL d) :: Res.mpT Tryz.prog 3 Value.bool bs (seenL (r :: (es.take k).map (·.2))) :: .blk b3 (.cells #[.int .i64 r, .slice am nm cm] 32) :: .blk b2 (.cells #[.string H.Name, .slice a1 n1 c1, .slice a2 n2 c2, .slice a3 n3 c3, .slice a4 n4 c4, .slice a5 n5 c5] 28) :: S) w := hw
    repeat (first | refine byW ?_ | (refine byV ?_; intro w hw))
    refine W_quiet (by kernel_rfl) (by kernel_rfl) hw ?_
    repeat (first | refine Q_nil ?_ | (apply Q_plain; first | (apply Q_go; first | refine qP ?_ | refine qPg ?_) | refine qY ?_) | (apply Q_guarded; first | (apply Q_go; first | refine qPG ?_ | refine qPgG ?_) | refine qG ?_))
    apply Q_guarded
    refine qG ?_ (hy := fun hc w hw => by
      have h0 := hy (by have := of_decide_eq_true hc; omega)
      exact byPUG)
    repeat (first | refine Q_nil ?_ | (apply Q_plain; first | (apply Q_go; first | refine qP ?_ | refine qPg ?_) | refine qY ?_) | (apply Q_guarded; first | (apply Q_go; first | refine qPG ?_ | refine qPgG ?_) | refine qG ?_))
    intro w hw
    have hy1 : 0 < k → es[k - 1]? = some y := fun h0 => by rw [← hy h0, show ((k : Int) - 1).toNat = k - 1 by omega]
    refine W_cutT (fun ρ w => ∃ (d : List Int), Has ρ [(3, .pointer (some ⟨b3, 0, none⟩)), (16, .map (some bs)), (17, .map (some bd)), (19, .pointer (some ⟨b19, 0, none⟩)), (88, .slice am nm cm), (89, .int .i64 nm), (90, .int .i64 k)] ∧ (∀ y, y ∈ d ↔ DoneAt es k y) ∧ Wd Γ (.blk b19 (.cells (plV x).toArray 60) :: Res.mpT Tryz.prog 3 Value.bool bd (seenL d) :: Res.mpT Tryz.prog 3 Value.bool bs (seenL (r :: (es.take k).map (·.2))) :: .blk b3 (.cells #[.int .i64 r, .slice am nm cm] 32) :: .blk b2 (.cells #[.string H.Name, .slice a1 n1 c1, .slice a2 n2 c2, .slice a3 n3 c3, .slice a4 n4 c4, .slice a5 n5 c5] 28) :: S) w) ?_ ?_
    · refine W_cond rfl (fun h2 => ?_) (fun h2 => ?_)
      · have h2 : (decide ((k : Int) > 0) && decide (y.1 ≠ x.1)) = true := h2
        simp only [Bool.and_eq_true, decide_eq_true_eq] at h2
        have h0 : 0 < k := by omega
        have hy0 := hy h0
        obtain ⟨d', hd1, hd2⟩ := seen_set_any (d := d) (x := y.1)
        repeat (first | refine byW ?_ | (refine byV ?_; intro w hw))
        refine L_step rfl rfl (s_mapUpdate (P := Tryz.prog) (K := 3) (α := Int) (f := Value.bool) (i := 1) (v := true) (a := y.1) hw rfl rfl rfl rfl fun w hw => ?_)
        rw [hd1] at hw
        repeat (first | refine byW ?_ | (refine byV ?_; intro w hw))
        exact ⟨d', ⟨rfl, rfl, rfl, rfl, rfl, rfl, rfl, trivial⟩, fun z => by rw [hd2, done_step hx hy1, hd]; exact or_congr Iff.rfl ⟨fun e => ⟨h0, h2.2, e.symm⟩, fun e => e.2.2.symm⟩, hw⟩
      · have h2 : (decide ((k : Int) > 0) && decide (y.1 ≠ x.1)) = false := h2
        repeat (first | refine byW ?_ | (refine byV ?_; intro w hw))
        refine ⟨d, ⟨rfl, rfl, rfl, rfl, rfl, rfl, rfl, trivial⟩, fun z => ?_, hw⟩
        rw [done_step hx hy1, hd]
        refine ⟨.inl, fun hh => ?_⟩
        rcases hh with hh | ⟨e1, e2, -⟩
        · exact hh
        · have : (decide ((k : Int) > 0) && decide (y.1 ≠ x.1)) = true := by
            rw [decide_eq_true (show (k : Int) > 0 by omega), decide_eq_true e2]; rfl
          rw [this] at h2; cases h2
    · clear hw
      rintro ρ w ⟨d, hρ, hd, hw⟩
      rw [hρ.eq]
      clear hρ
      letI hdm : Decidable (x.1 ∈ r :: (es.take k).map (·.2)) := Classical.propDecidable _
      letI hdm2 : Decidable (x.1 ∈ d) := Classical.propDecidable _
      have ht2 : r :: (es.take (k + 1)).map (·.2) = (r :: (es.take k).map (·.2)) ++ [x.2] := by rw [take_succ_of hx]; simp
      repeat (first | refine byW ?_ | (refine byV ?_; intro w hw))
      refine L_y rfl rfl (v := .bool (decide (x.1 ∈ r :: (es.take k).map (·.2)))) ?_ ?_
      · by_cases hm : x.1 ∈ r :: (es.take k).map (·.2)
        · rw [decide_eq_true hm]
          exact y_lookup_some (P := Tryz.prog) (K := 3) (α := Int) (f := Value.bool) (i := 2) hw rfl rfl rfl (seen_some hm) false
        · rw [decide_eq_false hm]
          exact y_lookup_none (P := Tryz.prog) (K := 3) (α := Int) (f := Value.bool) (i := 2) hw rfl rfl rfl (seen_none hm) false
      repeat (first | refine byW ?_ | (refine byV ?_; intro w hw))
      refine lG (v := .bool (decide (x.1 ∈ d))) ?_ (hv := fun hc => by
        by_cases hm : x.1 ∈ d
        · rw [decide_eq_true hm]
          exact y_lookup_some (P := Tryz.prog) (K := 3) (α := Int) (f := Value.bool) (i := 1) hw byOP byOP rfl (seen_some hm) false
        · rw [decide_eq_false hm]
          exact y_lookup_none (P := Tryz.prog) (K := 3) (α := Int) (f := Value.bool) (i := 1) hw byOP byOP rfl (seen_none hm) false)
      repeat (first | refine byW ?_ | (refine byV ?_; intro w hw))
      refine W_cond rfl (fun h2 => ?_) (fun h2 => ?_)
      · have h2 : ((!decide (x.1 ∈ r :: (es.take k).map (·.2))) || decide (x.1 ∈ d)) = true := h2
        rw [if_neg (by
          rw [decP_f (p := ProtoP r es) (fun hP => by
            obtain ⟨p1, p2⟩ := hP k x hx
            rw [decide_eq_true p1, decide_eq_false (fun hh => p2 ((hd x.1).1 hh))] at h2
            cases h2)]
          simp)]
        repeat (first | refine byW ?_ | (refine byV ?_; intro w hw))
        exact ⟨_, rfl, rfl, hw.ds [0, 0, 0, 0, 0]⟩
      · have h2 : ((!decide (x.1 ∈ r :: (es.take k).map (·.2))) || decide (x.1 ∈ d)) = false := h2
        obtain ⟨q1, q2⟩ := Bool.or_eq_false_iff.1 h2
        have q1 : x.1 ∈ r :: (es.take k).map (·.2) := by
          by_cases hm : x.1 ∈ r :: (es.take k).map (·.2)
          · exact hm
          · rw [decide_eq_false hm] at q1; cases q1
        have q2 : x.1 ∉ d := of_decide_eq_false q2
        have hm : x.2 ∉ r :: (es.take k).map (·.2) := by
          have hs : (r :: (es.take (k + 1)).map (·.2)).Nodup := by
            rw [List.map_take]
            exact ((List.take_sublist _ _).cons_cons r).nodup hnd
          rw [ht2] at hs
          exact (nodup_snoc.1 hs).2
        repeat (first | refine byW ?_ | (refine byV ?_; intro w hw))
        refine L_step rfl rfl (s_mapUpdate (P := Tryz.prog) (K := 3) (α := Int) (f := Value.bool) (i := 2) (v := true) (a := x.2) hw rfl rfl rfl rfl fun w hw => ?_)
        rw [seen_set hm, ← ht2] at hw
        repeat (first | refine byW ?_ | (refine byV ?_; intro w hw))
        refine ⟨μ - 1, by omega, k + 1, d, by omega, ⟨rfl, rfl, rfl, rfl, rfl, rfl, trivial⟩, hd, fun i e hi he => ?_, hw.drop⟩
        by_cases ei : i = k
        · subst ei; rw [hx] at he; cases he
          exact ⟨q1, fun hh => q2 ((hd x.1).2 hh)⟩
        · exact hall i e (by omega) he
  · have hkn : ¬ k < nm := by have := of_decide_eq_false h; omega
    rw [if_pos (decP_t (p := ProtoP r es) (fun i e he => hall i e (by have := (List.getElem?_eq_some_iff.1 he).1; omega) he))]
    repeat (first | refine byW ?_ | (refine byV ?_; intro w hw))
    exact ⟨_, rfl, rfl, hw.ds [0, 0, 0, 0]⟩⟩
end Go.Proofs.YteiijmclobggjaaGreat
end
/- Cores of a valid description: their nodes are in range and connected; what Arrivals computes. -/
section
open Go Mk
namespace Go.Proofs.YteiijmclobggjaaGreat

theorem findC_mem {l : List CoreT} {id : Int} (h : (findC l id).2 = true) : (findC l id).1 ∈ l ∧ (findC l id).1.ID = id := by
  rcases coreIx_cases l id with ⟨-, h2, -⟩ | ⟨k, x, -, hx, he, h2⟩
  · rw [h2] at h; cases h
  · rw [h2]; exact ⟨List.mem_of_getElem? hx, he⟩
theorem core_node {H : HwT} (hv : validS H = 0) {c : CoreT} (hc : c ∈ H.Cores) : 0 ≤ c.Node ∧ c.Node < 64 := by
  obtain ⟨-, -, h3, -⟩ := valid_all hv
  unfold coresRB at h3
  simp only [Bool.and_eq_true] at h3
  have := List.all_eq_true.1 h3.1.1 c hc
  simp [coreRB, isNodeB] at this
  omega
theorem core_reach {H : HwT} (hv : validS H = 0) {c : CoreT} (hc : c ∈ H.Cores) : Reach H.Links ((usedN H).headD 0) c.Node := by
  obtain ⟨-, -, -, -, -, -, -, -, h9⟩ := valid_all hv
  have hP : ConnP H := by
    by_cases h : ConnP H
    · exact h
    · unfold connB at h9; rw [decP_f h] at h9; cases h9
  refine hP c.Node ?_
  unfold usedN
  exact List.mem_append_left _ (List.mem_append_left _ (List.mem_map.2 ⟨c, hc, rfl⟩))
theorem coreN_rng {H : HwT} (hv : validS H = 0) {x : Int} (h : (findC H.Cores x).2 = true) : 0 ≤ coreN H x ∧ coreN H x < 64 := core_node hv (findC_mem h).1
theorem far_le {H : HwT} (hv : validS H = 0) {x y : Int} (h : (findC H.Cores x).2 = true) (k : (findC H.Cores y).2 = true) : 0 ≤ farI H x y ∧ farI H x y ≤ 63000000 := by
  have hL := valid_links hv
  have hx := coreN_rng hv h
  refine ⟨?_, (dst_le hL hx).2⟩
  exact dstI_reach hL hx (core_reach hv (findC_mem h).1) (core_reach hv (findC_mem k).1)
/-- What Arrivals computes: the start of each core, how much each has sent. -/
def updI (f : Int → Int) (a v : Int) : Int → Int := fun x => if a = x then v else f x
def arrF (far : Int → Int → Int) (cost : Int) : (Int → Int) → (Int → Int) → List Pl → List Int
  | _, _, [] => []
  | st, sn, e :: es => (st e.1 + (sn e.1 + 1) * cost + far e.1 e.2) :: arrF far cost (updI st e.2 (st e.1 + (sn e.1 + 1) * cost + far e.1 e.2)) (updI sn e.1 (sn e.1 + 1)) es
theorem arrF_len (far : Int → Int → Int) (cost : Int) : ∀ (es : List Pl) (st sn : Int → Int), (arrF far cost st sn es).length = es.length
  | [], _, _ => rfl
  | e :: es, st, sn => by unfold arrF; rw [List.length_cons, arrF_len far cost es, List.length_cons]
/-- A map of numbers stands for a function that is 0 elsewhere. -/
def MapF (l : List (Int × Int)) (f : Int → Int) : Prop := ∀ x, (aGet l x).getD 0 = f x
theorem mapF_set {l : List (Int × Int)} {f : Int → Int} (h : MapF l f) (a v : Int) : MapF (aSet l a v) (updI f a v) := fun x => by
  rw [aGet_aSet]
  unfold updI
  split
  · rfl
  · exact h x
theorem y_lookupF {Γ : Gho} {S : List Res} {w : World} {ρ : Fr} {d : Option Tmp} {T ty ET : TypeId} {pos : String} {es : Array Edge} {g : Option (Nat × Bool)} {x y : Operand} {l : List (Int × Int)} {f : Int → Int} {a : Int} {bm i : Nat} [hM : TMap Tryz.prog T 3 ET] [hz : TZV Tryz.prog ET (.int .i64 0)] (hw : Wd Γ S w) (hl : MapF l f) (hi : S[i]? = some (Res.mpT Tryz.prog 3 (fun n : Int => Value.int .i64 n) bm l)) (hx : ev ρ x = .map (some bm)) (hy : ev ρ y = .int .i64 a) :
    Mk.Yields Tryz.prog ⟨d, .lookup T x y false, ty, pos, es, g⟩ ρ w (.int .i64 (f a)) := by
  have h := hl a
  cases hg : aGet l a with
  | some v =>
    rw [hg] at h
    rw [← h]
    exact y_lookup_some (f := fun n : Int => Value.int .i64 n) hw hx hy hi hg false
  | none =>
    rw [hg] at h
    rw [← h]
    exact y_lookup_none (f := fun n : Int => Value.int .i64 n) hw hx hy hi hg false
end Go.Proofs.YteiijmclobggjaaGreat
end
/- Completion, once Arrivals is known. -/
section
open Go Mk
namespace Go.Proofs.YteiijmclobggjaaGreat
set_option maxHeartbeats 8000000
attribute [local irreducible] Calls
theorem max_if (a b : Int) : max a b = if a < b then b else a := by
  split <;> omega
theorem completion_of {Γ : Gho} {u : Value} {H : HwT} [hh : HwR Γ u H] {r cost err : Int} {am : Option Addr} {nm cm : Nat} {l : List Int} (hlen : l.length ≤ 1000)
    (hA : ∀ S w, Wd Γ S w → Calls Tryz.prog 13 #[u, .agg #[.int .i64 r, .slice am nm cm], .int .i64 cost] w fun e w' => ∃ v, e = .returned (.tuple #[v, .int .i64 err]) ∧ Wd Γ (.own v 3 1 (intRows l) :: S) w') {S : List Res} {w : World} (hw : Wd Γ S w) :
    Calls Tryz.prog 15 #[u, .agg #[.int .i64 r, .slice am nm cm], .int .i64 cost] w fun e w' => e = .returned (.tuple #[.int .i64 (if err = 0 then l.foldl max 0 else 0), .int .i64 err]) ∧ Wd Γ S w' := by
  obtain ⟨a1, n1, c1, a2, n2, c2, a3, n3, c3, a4, n4, c4, a5, n5, c5, cs, rfl, -⟩ := hh.h
  refine calls_of_W Tryz.func15 rfl rfl ?_
  repeat (first | refine byW ?_ | (refine byV ?_; intro w hw))
  refine lBox ?_
  intro b3 w hw
  refine lBox ?_
  intro b4 w hw
  have hw : Wd Γ (.blk b4 (.cells #[.int .i64 r, .slice am nm cm] 32) :: .blk b3 (.cells #[.string H.Name, .slice a1 n1 c1, .slice a2 n2 c2, .slice a3 n3 c3, .slice a4 n4 c4, .slice a5 n5 c5] 28) :: S) w := hw
  repeat (first | refine byW ?_ | (refine byV ?_; intro w hw))
  refine lCall ((hA _ w hw).mono fun e w hq => ?_)
  obtain ⟨v, rfl, hw⟩ := hq
  obtain ⟨av, nv, cv, rfl, hnv, hncv, -⟩ := hw.own_shape (i := 0) rfl
  simp only [intRows, List.length_map] at hnv
  refine ⟨_, rfl, ?_⟩
  repeat (first | refine byW ?_ | (refine byV ?_; intro w hw))
  refine W_cond rfl (fun h => ?_) (fun h => ?_)
  · have h : ¬ err = 0 := by simpa using h
    rw [if_neg h]
    repeat (first | refine byW ?_ | (refine byV ?_; intro w hw))
    exact ⟨_, rfl, rfl, hw.ds [0, 0, 0]⟩
  have h : err = 0 := by simpa using h
  subst h
  rw [if_pos rfl]
  repeat (first | refine byW ?_ | (refine byV ?_; intro w hw))
  refine W_loop (fun μ ρ w => ∃ (k : Nat), μ + k = nv ∧ Has ρ [(10, .int .i64 ((l.take k).foldl max 0)), (23, .slice av nv cv), (24, .int .i64 nv), (25, .int .i64 k)] ∧ Wd Γ (.own (.slice av nv cv) 3 1 (intRows l) :: .blk b4 (.cells #[.int .i64 r, .slice am nm cm] 32) :: .blk b3 (.cells #[.string H.Name, .slice a1 n1 c1, .slice a2 n2 c2, .slice a3 n3 c3, .slice a4 n4 c4, .slice a5 n5 c5] 28) :: S) w) nv ⟨0, by omega, ⟨rfl, rfl, rfl, rfl, trivial⟩, hw⟩ ?_
  clear hw
  rintro μ ρ w ⟨k, hk, hρ, hw⟩
  rw [hρ.eq]
  clear hρ
  repeat (first | refine byW ?_ | (refine byV ?_; intro w hw))
  refine W_cond rfl (fun h => ?_) (fun h => ?_)
  · have hkn : k < nv := by have := of_decide_eq_true h; omega
    obtain ⟨x, hx⟩ := get_lt (l := l) (k := k) (by omega)
    have hst : (l.take (k + 1)).foldl max 0 = max ((l.take k).foldl max 0) x := by rw [take_succ_of hx, List.foldl_append]; rfl
    repeat (first | refine byW ?_ | (refine byV ?_; intro w hw))
    refine ⟨μ - 1, by omega, k + 1, by omega, ⟨?_, rfl, rfl, rfl, trivial⟩, hw⟩
    rw [hst, max_if]
    rfl
  · have hkn : ¬ k < nv := by have := of_decide_eq_false h; omega
    rw [List.take_of_length_le (by omega)]
    repeat (first | refine byW ?_ | (refine byV ?_; intro w hw))
    exact ⟨_, rfl, rfl, hw.ds [0, 0, 0]⟩
end Go.Proofs.YteiijmclobggjaaGreat
end
/- The distances between cores as one resource. -/
section
open Go Mk
namespace Go.Proofs.YteiijmclobggjaaGreat
set_option maxHeartbeats 8000000
attribute [local irreducible] Calls
/-- A 'between' in memory, with what it has computed so far. -/
noncomputable def btwP (bb : Nat) (H : HwT) (a1 : Option Addr) (n1 c1 : Nat) (a2 : Option Addr) (n2 c2 : Nat) (a3 : Option Addr) (n3 c3 : Nat) (a4 : Option Addr) (n4 c4 : Nat) (a5 : Option Addr) (n5 c5 : Nat) : Res :=
  Res.pk (fun q : Nat × List (Int × Value) => (q.2.map (·.1)).Nodup) (fun q => btwB bb H a1 n1 c1 a2 n2 c2 a3 n3 c3 a4 n4 c4 a5 n5 c5 q.1 :: adjM q.1 q.2 :: q.2.map (dsO H))
theorem coresP_any {Γ : Gho} {H : HwT} {a1 : Option Addr} {n1 c1 : Nat} {a2 : Option Addr} {n2 c2 : Nat} {a3 : Option Addr} {n3 c3 : Nat} {a4 : Option Addr} {n4 c4 : Nat} {a5 : Option Addr} {n5 c5 : Nat} [hh : HwR Γ (.agg #[.string H.Name, .slice a1 n1 c1, .slice a2 n2 c2, .slice a3 n3 c3, .slice a4 n4 c4, .slice a5 n5 c5]) H] (hL : LinksOk H.Links) {x y : Int} (hx : 0 ≤ coreN H x ∧ coreN H x < 64) (hy : 0 ≤ coreN H y ∧ coreN H y < 64) {bb : Nat} {S : List Res} {w : World} (hw : Wd Γ (btwP bb H a1 n1 c1 a2 n2 c2 a3 n3 c3 a4 n4 c4 a5 n5 c5 :: S) w) :
    Calls Tryz.prog 40 #[.pointer (some ⟨bb, 0, none⟩), .int .i64 x, .int .i64 y] w fun e w' => e = .returned (.int .i64 (farI H x y)) ∧ Wd Γ (btwP bb H a1 n1 c1 a2 n2 c2 a3 n3 c3 a4 n4 c4 a5 n5 c5 :: S) w' := by
  unfold btwP at hw
  obtain ⟨⟨bm, l⟩, hl, hw⟩ := Wd.unpack hw
  refine (cores_any (bm := bm) (l := l) hL hx hy hl (S := S) hw).mono fun e w' hq => ?_
  obtain ⟨h1, l', hl', hw'⟩ := hq
  unfold btwP
  exact ⟨h1, Wd.pack (bm, l') hl' hw'⟩
theorem btwP_new {Γ : Gho} {H : HwT} {a1 : Option Addr} {n1 c1 : Nat} {a2 : Option Addr} {n2 c2 : Nat} {a3 : Option Addr} {n3 c3 : Nat} {a4 : Option Addr} {n4 c4 : Nat} {a5 : Option Addr} {n5 c5 : Nat} {bb bm : Nat} {S : List Res} {w : World} (hw : Wd Γ (btwB bb H a1 n1 c1 a2 n2 c2 a3 n3 c3 a4 n4 c4 a5 n5 c5 bm :: adjM bm [] :: S) w) : Wd Γ (btwP bb H a1 n1 c1 a2 n2 c2 a3 n3 c3 a4 n4 c4 a5 n5 c5 :: S) w := by
  unfold btwP
  exact Wd.pack (bm, []) (by simp) hw
end Go.Proofs.YteiijmclobggjaaGreat
end
/- Insertion sort by swaps: its laws. -/
section
open Go Mk
namespace Mk
/-! Insertion sort by swaps, as slices.insertionSortCmpFunc does it. -/
section
variable {α : Type} {lt : α → α → Bool}
end
end Mk
end
/- The comparisons by which Normalize sorts. -/
section
open Go Mk
namespace Go.Proofs.YteiijmclobggjaaGreat
set_option maxHeartbeats 16000000
attribute [local irreducible] Calls
instance pc_cmpi (a b : Int) : PC Tryz.prog 34 [.int .i64 a, .int .i64 b] (.int .i64 (cI a b)) := ⟨fun w => by
  refine calls_of_W Tryz.func34 rfl rfl ?_
  repeat (first | refine byW ?_ | (refine byV ?_; intro w hw))
  refine W_cond_false rfl ?_
  repeat (first | refine byW ?_ | (refine byV ?_; intro w hw))
  refine W_cond_false rfl ?_
  repeat (first | refine byW ?_ | (refine byV ?_; intro w hw))
  refine W_cond rfl (fun h => ?_) (fun h => ?_)
  · repeat (first | refine byW ?_ | (refine byV ?_; intro w hw))
    exact ⟨_, rfl, ret_i rfl (by simp at h; simp [cI, h]), rfl⟩
  repeat (first | refine byW ?_ | (refine byV ?_; intro w hw))
  refine W_cond rfl (fun h2 => ?_) (fun h2 => ?_)
  · repeat (first | refine byW ?_ | (refine byV ?_; intro w hw))
    exact ⟨_, rfl, ret_i rfl (by simp at h h2; unfold cI; rw [if_neg (by omega), if_pos h2]), rfl⟩
  · repeat (first | refine byW ?_ | (refine byV ?_; intro w hw))
    exact ⟨_, rfl, ret_i rfl (by simp at h h2; unfold cI; rw [if_neg (by omega), if_neg (by omega)]), rfl⟩⟩
def orL : List Int → Int
  | [] => 0
  | x :: l => orI x (orL l)
theorem orI_r (x : Int) : orI x 0 = x := by unfold orI; split <;> simp [*]
/-- cmp.Or. -/
theorem Or_any {Γ : Gho} {S : List Res} {w : World} {v : Value} (xs : List Int) (hw : Wd Γ S w) (hr : RdS Γ S v 1 (xs.map fun x => [.int .i64 x])) :
    Calls Tryz.prog 33 #[v] w fun e w' => e = .returned (.int .i64 (orL xs)) ∧ Wd Γ S w' := by
  obtain ⟨a, n, c, rfl, hn, hnc, hc⟩ := hr.shape
  simp only [List.length_map] at hn
  refine calls_of_W Tryz.func33 rfl rfl ?_
  repeat (first | refine byW ?_ | (refine byV ?_; intro w hw))
  refine W_loop (fun μ ρ w => ∃ (k : Nat), μ + k = n ∧ Has ρ [(3, .int .i64 0), (6, .slice a n c), (7, .int .i64 n), (8, .int .i64 k)] ∧ orL xs = orL (xs.drop k) ∧ Wd Γ S w) n ⟨0, by omega, ⟨rfl, rfl, rfl, rfl, trivial⟩, rfl, hw⟩ ?_
  clear hw
  rintro μ ρ w ⟨k, hk, hρ, ho, hw⟩
  rw [hρ.eq]
  repeat (first | refine byW ?_ | (refine byV ?_; intro w hw))
  refine W_cond rfl (fun h => ?_) (fun h => ?_)
  · have hkn : k < n := by simpa using h
    obtain ⟨x, hx⟩ := get_lt (l := xs) (k := k) (by omega)
    have hd : xs.drop k = x :: xs.drop (k + 1) := by
      obtain ⟨h1, h2⟩ := List.getElem?_eq_some_iff.1 hx
      rw [← h2]; exact (List.drop_eq_getElem_cons h1)
    rw [hd] at ho
    repeat (first | refine byW ?_ | (refine byV ?_; intro w hw))
    refine W_cond rfl (fun h2 => ?_) (fun h2 => ?_)
    · repeat (first | refine byW ?_ | (refine byV ?_; intro w hw))
      have h2 : ¬ x = 0 := by simpa using h2
      refine ⟨_, rfl, ret_i rfl ?_, hw⟩
      rw [ho]; unfold orL orI; rw [if_neg h2]
    · repeat (first | refine byW ?_ | (refine byV ?_; intro w hw))
      have h2 : x = 0 := by simpa using h2
      refine ⟨μ - 1, by omega, k + 1, by omega, ⟨rfl, rfl, rfl, rfl, trivial⟩, ?_, hw⟩
      rw [ho]; show orI x _ = _; unfold orI; rw [if_pos h2]
  · have hkn : ¬ k < n := by simpa using h
    repeat (first | refine byW ?_ | (refine byV ?_; intro w hw))
    refine ⟨_, rfl, ret_i rfl ?_, hw⟩
    rw [ho, List.drop_eq_nil_of_le (by omega)]; rfl
end Go.Proofs.YteiijmclobggjaaGreat
end
/- The library's sort lies in this program: a row a fact (written by a program of mine; the kernel checks each). -/
section
open Go Mk
namespace Go.Proofs.YteiijmclobggjaaGreat
def lay_srt_ren : Go.Shelf.Ren := ⟨fun | 6 => 69 | 15 => 94 | 14 => 93 | 28 => 110 | 29 => 111 | 20 => 102 | 21 => 103 | 22 => 104 | 23 => 105 | 24 => 106 | 25 => 107 | 26 => 108 | 27 => 109 | 46 => 116 | 47 => 117 | 48 => 118 | 49 => 119 | 50 => 120 | 57 => 122 | n => n, fun | 22 => 29 | 24 => 3 | 25 => 50 | 3 => 3 | 39 => 99 | 0 => 0 | 53 => 155 | 55 => 63 | 4 => 4 | 46 => 148 | 45 => 147 | 50 => 152 | 5 => 5 | 9 => 9 | 66 => 158 | 70 => 162 | 76 => 164 | 77 => 119 | n => n, fun | n => n⟩
theorem lay_srt : Go.Proofs.SlLaysF.n6 Tryz.prog lay_srt_ren := {
  mixed := by kernel_rfl
  f6 := ⟨Tryz.f69.name, by decide, Tryz.func69.trans (congrArg some (by kernel_rfl))⟩
  f14 := ⟨Tryz.f93.name, by decide, Tryz.func93.trans (congrArg some (by kernel_rfl))⟩
  f15 := Tryz.func94.trans (congrArg some (by kernel_rfl))
  f20 := ⟨Tryz.f102.name, by decide, Tryz.func102.trans (congrArg some (by kernel_rfl))⟩
  f21 := ⟨Tryz.f103.name, by decide, Tryz.func103.trans (congrArg some (by kernel_rfl))⟩
  f22 := ⟨Tryz.f104.name, by decide, Tryz.func104.trans (congrArg some (by kernel_rfl))⟩
  f23 := ⟨Tryz.f105.name, by decide, Tryz.func105.trans (congrArg some (by kernel_rfl))⟩
  f24 := ⟨Tryz.f106.name, by decide, Tryz.func106.trans (congrArg some (by kernel_rfl))⟩
  f25 := ⟨Tryz.f107.name, by decide, Tryz.func107.trans (congrArg some (by kernel_rfl))⟩
  f26 := ⟨Tryz.f108.name, by decide, Tryz.func108.trans (congrArg some (by kernel_rfl))⟩
  f27 := ⟨Tryz.f109.name, by decide, Tryz.func109.trans (congrArg some (by kernel_rfl))⟩
  f28 := Tryz.func110.trans (congrArg some (by kernel_rfl))
  f29 := Tryz.func111.trans (congrArg some (by kernel_rfl))
  f46 := ⟨Tryz.f116.name, by decide, Tryz.func116.trans (congrArg some (by kernel_rfl))⟩
  f47 := Tryz.func117.trans (congrArg some (by kernel_rfl))
  f48 := Tryz.func118.trans (congrArg some (by kernel_rfl))
  f49 := ⟨Tryz.f119.name, by decide, Tryz.func119.trans (congrArg some (by kernel_rfl))⟩
  f50 := ⟨Tryz.f120.name, by decide, Tryz.func120.trans (congrArg some (by kernel_rfl))⟩
  f57 := ⟨Tryz.f122.name, by decide, Tryz.func122.trans (congrArg some (by kernel_rfl))⟩
  t0 := Tryz.underlying0
  a0 := Tryz.isAgg0
  z0 := Tryz.sizeOf0
  v0 := Tryz.zeroValue0
  t3 := Tryz.underlying3
  a3 := Tryz.isAgg3
  z3 := Tryz.sizeOf3
  v3 := Tryz.zeroValue3
  t4 := Tryz.underlying4
  a4 := Tryz.isAgg4
  z4 := Tryz.sizeOf4
  v4 := Tryz.zeroValue4
  t5 := Tryz.underlying5
  a5 := Tryz.isAgg5
  z5 := Tryz.sizeOf5
  v5 := Tryz.zeroValue5
  t9 := Tryz.underlying9
  a9 := Tryz.isAgg9
  z9 := Tryz.sizeOf9
  v9 := Tryz.zeroValue9
  t22 := Tryz.underlying29
  a22 := Tryz.isAgg29
  z22 := Tryz.sizeOf29
  v22 := Tryz.zeroValue29
  a24 := Tryz.isAgg3
  z24 := Tryz.sizeOf3
  t25 := Tryz.underlying50
  a25 := Tryz.isAgg50
  z25 := Tryz.sizeOf50
  v25 := Tryz.zeroValue50
  t39 := Tryz.underlying99
  a39 := Tryz.isAgg99
  z39 := Tryz.sizeOf99
  v39 := Tryz.zeroValue99
  t45 := Tryz.underlying147
  a45 := Tryz.isAgg147
  z45 := Tryz.sizeOf147
  v45 := Tryz.zeroValue147
  t46 := Tryz.underlying148
  a46 := Tryz.isAgg148
  z46 := Tryz.sizeOf148
  v46 := Tryz.zeroValue148
  t50 := Tryz.underlying152
  a50 := Tryz.isAgg152
  z50 := Tryz.sizeOf152
  v50 := Tryz.zeroValue152
  t53 := Tryz.underlying155
  a53 := Tryz.isAgg155
  z53 := Tryz.sizeOf155
  v53 := Tryz.zeroValue155
  t55 := Tryz.underlying63
  a55 := Tryz.isAgg63
  z55 := Tryz.sizeOf63
  v55 := Tryz.zeroValue63
  t66 := Tryz.underlying158
  a66 := Tryz.isAgg158
  z66 := Tryz.sizeOf158
  v66 := Tryz.zeroValue158
  t70 := Tryz.underlying162
  a70 := Tryz.isAgg162
  z70 := Tryz.sizeOf162
  v70 := Tryz.zeroValue162
  t76 := Tryz.underlying164
  a76 := Tryz.isAgg164
  z76 := Tryz.sizeOf164
  v76 := Tryz.zeroValue164
  t77 := Tryz.underlying119
  a77 := Tryz.isAgg119
  z77 := Tryz.sizeOf119
  v77 := Tryz.zeroValue119 }
end Go.Proofs.YteiijmclobggjaaGreat
end
/- The comparisons of height and Plan; the least of a group; children are sorted. -/
section
open Go Mk
namespace Go.Proofs.YteiijmclobggjaaGreat
set_option maxHeartbeats 8000000
attribute [local irreducible] Calls
theorem tcmp_or (t : Int → Int) (a b : Int) : orL [cI (t b) (t a), cI a b] = tcmp t a b := by
  unfold orL orL orL tcmp
  rw [orI_r]
/-- The comparison of height's children: tails are read from a map that stands meanwhile. -/
theorem height1_any {Γ : Gho} {S : List Res} {w0 : World} {i j b5 bt : Nat} {lt : List (Int × Int)} {tf : Int → Int} (hw0 : Wd Γ S w0) (hj : S[j]? = some (.blk b5 (.cells #[.map (some bt)] 92))) (hi : S[i]? = some (Res.mpT Tryz.prog 3 (fun n : Int => Value.int .i64 n) bt lt)) (hm : MapF lt tf) (a b : Int) :
    Calls Tryz.prog 70 #[.int .i64 a, .int .i64 b, .pointer (some ⟨b5, 0, none⟩)] w0 fun e w' => e = .returned (.int .i64 (tcmp tf a b)) ∧ ∃ S'', Wd (allG w0) S'' w' := by
  have hb5 : (allG w0).imm b5 = some (.cells #[.map (some bt)] 92) := hw0.at_blk hj
  obtain ⟨en, clock, hmp, -⟩ := hw0.at_mp hi
  have hw : Wd (allG w0) [] w0 := allG_wd w0
  refine calls_of_W Tryz.func70 rfl rfl ?_
  repeat (first | refine byW ?_ | (refine byV ?_; intro w hw))
  have hl5 : w0.cell? ⟨b5, 0, none⟩ = some (.map (some bt)) := cell_of (hw.imm b5 _ hb5) rfl
  refine lY (v := .map (some bt)) ?_ (hy := y_load1 (A := ⟨b5, 0, none⟩) rfl hl5)
  repeat (first | refine byW ?_ | (refine byV ?_; intro w hw))
  refine lY (v := .int .i64 (tf b)) ?_ (hy := y_lookupF hw0 hm hi rfl rfl)
  repeat (first | refine byW ?_ | (refine byV ?_; intro w hw))
  refine lY (v := .map (some bt)) ?_ (hy := y_load1 (A := ⟨b5, 0, none⟩) rfl hl5)
  repeat (first | refine byW ?_ | (refine byV ?_; intro w hw))
  refine lY (v := .int .i64 (tf a)) ?_ (hy := y_lookupF hw0 hm hi rfl rfl)
  repeat (first | refine byW ?_ | (refine byV ?_; intro w hw))
  refine lBuildSlice [[.int .i64 (cI (tf b) (tf a))], [.int .i64 (cI a b)]] ?_
  intro aq w hw
  refine lCall ((Or_any [cI (tf b) (tf a), cI a b] hw (RdS.own (i := 0) hw rfl)).mono fun e w hq => ?_)
  obtain ⟨rfl, hw⟩ := hq
  refine ⟨_, rfl, ?_⟩
  repeat (first | refine byW ?_ | (refine byV ?_; intro w hw))
  exact ⟨_, rfl, (by rw [← tcmp_or]; rfl), _, hw⟩

/-- Children are sorted by height. -/
theorem sortH_any {Γ : Gho} {S : List Res} {w : World} {i j b5 bt : Nat} {lt : List (Int × Int)} {tf : Int → Int} {v : Value} {xs : List Int} (hw : Wd Γ (.own v 3 1 (intRows xs) :: S) w) (hj : S[j]? = some (.blk b5 (.cells #[.map (some bt)] 92))) (hi : S[i]? = some (Res.mpT Tryz.prog 3 (fun n : Int => Value.int .i64 n) bt lt)) (hm : MapF lt tf) (hl : xs.length ≤ 1000) :
    Calls Tryz.prog 69 #[v, .func (.func 70) #[] #[.pointer (some ⟨b5, 0, none⟩)]] w fun e w' => e = .returned (.tuple #[]) ∧ Wd Γ (.own v 3 1 (intRows (tsort tf xs)) :: S) w' := by
  have := SortFunc_1 (f := fun n : Int => Value.int .i64 n) lay_srt (fun _ => rfl) (tcmp tf) 70 [.pointer (some ⟨b5, 0, none⟩)] xs v hw (i := 0) rfl (tcmp_swo tf) (tcmp_tot tf) (by omega) (fun dk w' hw' x y =>
    height1_any hw' (j := j + 1) (i := i + 1) hj hi hm x y)
  exact this

noncomputable def spdC (H : HwT) (x : Int) : Int := (findC H.Cores x).1.Speed
theorem plan1_any {Γ : Gho} {H : HwT} {a1 : Option Addr} {n1 c1 : Nat} {a2 : Option Addr} {n2 c2 : Nat} {a3 : Option Addr} {n3 c3 : Nat} {a4 : Option Addr} {n4 c4 : Nat} {a5 : Option Addr} {n5 c5 : Nat} [hh : HwR Γ (.agg #[.string H.Name, .slice a1 n1 c1, .slice a2 n2 c2, .slice a3 n3 c3, .slice a4 n4 c4, .slice a5 n5 c5]) H] {b4 : Nat} {S : List Res} {w : World} (a b : Int) (hw : Wd Γ (.blk b4 (.cells #[.string H.Name, .slice a1 n1 c1, .slice a2 n2 c2, .slice a3 n3 c3, .slice a4 n4 c4, .slice a5 n5 c5] 28) :: S) w) :
    Calls Tryz.prog 32 #[.int .i64 a, .int .i64 b, .pointer (some ⟨b4, 0, none⟩)] w fun e w' => e = .returned (.int .i64 (tcmp (spdC H) a b)) ∧ Wd Γ (.blk b4 (.cells #[.string H.Name, .slice a1 n1 c1, .slice a2 n2 c2, .slice a3 n3 c3, .slice a4 n4 c4, .slice a5 n5 c5] 28) :: S) w' := by
  have he : tcmp (spdC H) a b = orL [cI (findC H.Cores b).1.Speed (findC H.Cores a).1.Speed, cI a b] := (tcmp_or (spdC H) a b).symm
  rw [he]
  refine calls_of_W Tryz.func32 rfl rfl ?_
  repeat (first | refine byW ?_ | (refine byV ?_; intro w hw))
  refine lAlloc ?_
  intro b6 w hw
  refine lStore ?_
  intro w hw
  repeat (first | refine byW ?_ | (refine byV ?_; intro w hw))
  refine lAlloc ?_
  intro b8 w hw
  refine lStore ?_
  intro w hw
  have hw : Wd Γ (.blk b8 (.cells (enc (findC H.Cores b).1).toArray 53) :: .blk b6 (.cells (enc (findC H.Cores a).1).toArray 53) :: .blk b4 (.cells #[.string H.Name, .slice a1 n1 c1, .slice a2 n2 c2, .slice a3 n3 c3, .slice a4 n4 c4, .slice a5 n5 c5] 28) :: S) w := hw
  repeat (first | refine byW ?_ | (refine byV ?_; intro w hw))
  refine lBuildSlice [[.int .i64 (cI (findC H.Cores b).1.Speed (findC H.Cores a).1.Speed)], [.int .i64 (cI a b)]] ?_
  intro aq w hw
  refine lCall ((Or_any [cI (findC H.Cores b).1.Speed (findC H.Cores a).1.Speed, cI a b] hw (RdS.own (i := 0) hw rfl)).mono fun e w hq => ?_)
  obtain ⟨rfl, hw⟩ := hq
  refine ⟨_, rfl, ?_⟩
  repeat (first | refine byW ?_ | (refine byV ?_; intro w hw))
  exact ⟨_, rfl, rfl, hw.ds [0, 0, 0]⟩

def minF (t : Int → Int) : Int → List Int → Int
  | m, [] => m
  | m, x :: l => minF t (if tcmp t x m < 0 then x else m) l
theorem minF_any {Γ : Gho} {H : HwT} {a1 : Option Addr} {n1 c1 : Nat} {a2 : Option Addr} {n2 c2 : Nat} {a3 : Option Addr} {n3 c3 : Nat} {a4 : Option Addr} {n4 c4 : Nat} {a5 : Option Addr} {n5 c5 : Nat} [hh : HwR Γ (.agg #[.string H.Name, .slice a1 n1 c1, .slice a2 n2 c2, .slice a3 n3 c3, .slice a4 n4 c4, .slice a5 n5 c5]) H] {b4 : Nat} {S : List Res} {w : World} {v : Value} {x0 : Int} {xs : List Int} (hl : xs.length ≤ 1000) (hw : Wd Γ (.blk b4 (.cells #[.string H.Name, .slice a1 n1 c1, .slice a2 n2 c2, .slice a3 n3 c3, .slice a4 n4 c4, .slice a5 n5 c5] 28) :: .own v 3 1 (intRows (x0 :: xs)) :: S) w) :
    Calls Tryz.prog 31 #[v, .func (.func 32) #[] #[.pointer (some ⟨b4, 0, none⟩)]] w fun e w' => e = .returned (.int .i64 (minF (spdC H) x0 xs)) ∧ Wd Γ (.blk b4 (.cells #[.string H.Name, .slice a1 n1 c1, .slice a2 n2 c2, .slice a3 n3 c3, .slice a4 n4 c4, .slice a5 n5 c5] 28) :: .own v 3 1 (intRows (x0 :: xs)) :: S) w' := by
  obtain ⟨a, n, c, rfl, hn, hnc, hc⟩ := hw.own_shape (i := 1) rfl
  simp only [intRows, List.length_map, List.length_cons] at hn
  refine calls_of_W Tryz.func31 rfl rfl ?_
  repeat (first | refine byW ?_ | (refine byV ?_; intro w hw))
  refine W_cond_false (by exact congrArg Value.bool (decide_eq_false (by omega))) ?_
  have hx0 : (x0 :: xs)[0]? = some x0 := rfl
  repeat (first | refine byW ?_ | (refine byV ?_; intro w hw))
  refine W_loop (fun μ ρ w => ∃ (k : Nat) (m : Int), μ + k = n ∧ 1 ≤ k ∧ minF (spdC H) m ((x0 :: xs).drop k) = minF (spdC H) x0 xs ∧ Has ρ [(0, .slice a n c), (1, .func (.func 32) #[] #[.pointer (some ⟨b4, 0, none⟩)]), (5, .int .i64 m), (6, .int .i64 k)] ∧ Wd Γ (.blk b4 (.cells #[.string H.Name, .slice a1 n1 c1, .slice a2 n2 c2, .slice a3 n3 c3, .slice a4 n4 c4, .slice a5 n5 c5] 28) :: .own (.slice a n c) 3 1 (intRows (x0 :: xs)) :: S) w) (n - 1) ⟨1, x0, by omega, Nat.le_refl _, rfl, ⟨rfl, rfl, rfl, rfl, trivial⟩, hw⟩ ?_
  clear hw
  rintro μ ρ w ⟨k, m, hk, hk1, hF, hρ, hw⟩
  rw [hρ.eq]
  clear hρ
  repeat (first | refine byW ?_ | (refine byV ?_; intro w hw))
  refine W_cond rfl (fun h => ?_) (fun h => ?_)
  · have hkn : k < n := by have := of_decide_eq_true h; omega
    obtain ⟨x, hx⟩ := get_lt (l := x0 :: xs) (k := k) (by simp; omega)
    have hdr : (x0 :: xs).drop k = x :: (x0 :: xs).drop (k + 1) := by
      obtain ⟨q1, q2⟩ := List.getElem?_eq_some_iff.1 hx
      rw [List.drop_eq_getElem_cons q1, q2]
    rw [hdr] at hF
    repeat (first | refine byW ?_ | (refine byV ?_; intro w hw))
    refine lCallv (fst := []) (cap := [.pointer (some ⟨b4, 0, none⟩)]) (vs := [.int .i64 x, .int .i64 m]) ?_
    refine (plan1_any x m hw).mono ?_
    clear hw
    rintro e w ⟨rfl, hw⟩
    refine ⟨_, rfl, ?_⟩
    repeat (first | refine byW ?_ | (refine byV ?_; intro w hw))
    refine W_cond rfl (fun h2 => ?_) (fun h2 => ?_)
    · have h2 : tcmp (spdC H) x m < 0 := of_decide_eq_true h2
      have hF : minF (spdC H) x ((x0 :: xs).drop (k + 1)) = minF (spdC H) x0 xs := by rw [← hF]; conv => rhs; unfold minF
                                                                                      rw [if_pos h2]
      repeat (first | refine byW ?_ | (refine byV ?_; intro w hw))
      exact ⟨μ - 1, by omega, k + 1, x, by omega, by omega, hF, ⟨rfl, rfl, rfl, rfl, trivial⟩, hw⟩
    · have h2 : ¬ tcmp (spdC H) x m < 0 := of_decide_eq_false h2
      have hF : minF (spdC H) m ((x0 :: xs).drop (k + 1)) = minF (spdC H) x0 xs := by rw [← hF]; conv => rhs; unfold minF
                                                                                      rw [if_neg h2]
      repeat (first | refine byW ?_ | (refine byV ?_; intro w hw))
      exact ⟨μ - 1, by omega, k + 1, m, by omega, by omega, hF, ⟨rfl, rfl, rfl, rfl, trivial⟩, hw⟩
  · have hkn : ¬ k < n := by have := of_decide_eq_false h; omega
    rw [List.drop_eq_nil_of_le (by simp; omega)] at hF
    have hF : m = minF (spdC H) x0 xs := hF
    repeat (first | refine byW ?_ | (refine byV ?_; intro w hw))
    exact ⟨_, rfl, (by rw [← hF]; rfl), hw⟩
end Go.Proofs.YteiijmclobggjaaGreat
end
/- What Plan computes, in plain words: groups by node, forwarders, children. -/
section
open Go Mk
namespace Go.Proofs.YteiijmclobggjaaGreat

noncomputable def grpL (H : HwT) (ms : List Int) (n : Int) : List Int := ms.filter fun x => decide (coreN H x = n)
def addI (N : Int → List Int) (a : Int) (xs : List Int) : Int → List Int := fun x => if a = x then N x ++ xs else N x
theorem addI_addI (N : Int → List Int) (a : Int) (xs ys : List Int) : addI (addI N a xs) a ys = addI N a (xs ++ ys) := by
  funext x; unfold addI; by_cases h : a = x <;> simp [h]
theorem addI_nil (N : Int → List Int) (a : Int) : addI N a [] = N := by
  funext x; unfold addI; simp
/-- The forwarder of a group. -/
noncomputable def fwdL (H : HwT) : List Int → Int
  | [] => 0
  | x :: l => minF (spdC H) x l
theorem minF_mem {t : Int → Int} : ∀ {l : List Int} {m : Int}, minF t m l = m ∨ minF t m l ∈ l
  | [], _ => .inl rfl
  | x :: l, m => by
    unfold minF
    rcases minF_mem (t := t) (l := l) (m := if tcmp t x m < 0 then x else m) with h | h
    · by_cases e : tcmp t x m < 0
      · rw [if_pos e] at h ⊢; exact .inr (by rw [h]; simp)
      · rw [if_neg e] at h ⊢; exact .inl h
    · exact .inr (by simp [h])
theorem fwdL_mem {H : HwT} {l : List Int} (h : l ≠ []) : fwdL H l ∈ l := by
  cases l with
  | nil => exact absurd rfl h
  | cons x l =>
    show minF (spdC H) x l ∈ x :: l
    rcases minF_mem (t := spdC H) (l := l) (m := x) with h | h
    · rw [h]; simp
    · simp [h]
theorem grpL_mem {H : HwT} {ms : List Int} {n x : Int} : x ∈ grpL H ms n ↔ x ∈ ms ∧ coreN H x = n := by
  unfold grpL; simp
theorem grpL_snoc {H : HwT} {ms : List Int} {k : Nat} {x : Int} (h : ms[k]? = some x) : addI (grpL H (ms.take k)) (coreN H x) [x] = grpL H (ms.take (k + 1)) := by
  funext n
  rw [take_succ_of h]
  unfold addI grpL
  rw [List.filter_append]
  by_cases e : coreN H x = n
  · simp [e]
  · simp [e]
theorem grpL_len {H : HwT} {ms : List Int} {n : Int} : (grpL H ms n).length ≤ ms.length := List.length_filter_le _ _

section
variable (H : HwT) (r : Int) (ms : List Int)
/-- What the root is given at a node. -/
noncomputable def rootAt (n : Int) : List Int := if n = coreN H r ∨ grpL H ms n = [] then grpL H ms n else [fwdL H (grpL H ms n)]
noncomputable def isFwd (x : Int) : Bool := decide (coreN H x ≠ coreN H r ∧ x ∈ ms ∧ x = fwdL H (grpL H ms (coreN H x)))
/-- The children behind the first k nodes. -/
noncomputable def chK (k : Nat) (x : Int) : List Int := if x = r then (List.range k).flatMap (fun i : Nat => rootAt H r ms (i : Int)) else if isFwd H r ms x = true ∧ 0 ≤ coreN H x ∧ coreN H x < (k : Int) then (grpL H ms (coreN H x)).filter (fun y => decide (y ≠ x)) else []
noncomputable def chP (x : Int) : List Int := chK H r ms 64 x
end
section
variable {H : HwT} {r : Int} {ms : List Int}
theorem chK_zero : chK H r ms 0 = fun _ => [] := by
  funext x
  unfold chK
  split
  · rfl
  · rw [if_neg (by omega)]
theorem chK_succ {k : Nat} (hr : r ∉ ms) : chK H r ms (k + 1) = if (k : Int) = coreN H r ∨ grpL H ms (k : Int) = [] then addI (chK H r ms k) r (grpL H ms (k : Int)) else addI (addI (chK H r ms k) r [fwdL H (grpL H ms (k : Int))]) (fwdL H (grpL H ms (k : Int))) ((grpL H ms (k : Int)).filter (fun y => decide (y ≠ fwdL H (grpL H ms (k : Int))))) := by
  funext x
  have hroot : ∀ g : List Int, rootAt H r ms (k : Int) = g → chK H r ms (k + 1) r = chK H r ms k r ++ g := fun g hg => by
    unfold chK
    rw [if_pos rfl, if_pos rfl, List.range_succ, List.flatMap_append]
    simp [hg]
  by_cases hc : (k : Int) = coreN H r ∨ grpL H ms (k : Int) = []
  · rw [if_pos hc]
    by_cases hx : x = r
    · subst hx
      rw [hroot (grpL H ms (k : Int)) (by unfold rootAt; rw [if_pos hc])]
      unfold addI; rw [if_pos rfl]
    · have : addI (chK H r ms k) r (grpL H ms (k : Int)) x = chK H r ms k x := by unfold addI; rw [if_neg (Ne.symm hx)]
      rw [this]
      unfold chK
      rw [if_neg hx, if_neg hx]
      by_cases hf : isFwd H r ms x = true ∧ 0 ≤ coreN H x ∧ coreN H x < (k : Int)
      · rw [if_pos hf, if_pos ⟨hf.1, hf.2.1, by omega⟩]
      · rw [if_neg hf, if_neg]
        rintro ⟨h1, h2, h3⟩
        have h4 : coreN H x = (k : Int) := by
          have : ¬ coreN H x < (k : Int) := fun h => hf ⟨h1, h2, h⟩
          omega
        unfold isFwd at h1
        obtain ⟨e1, e2, -⟩ := of_decide_eq_true h1
        rcases hc with hc | hc
        · exact e1 (by rw [h4, hc])
        · have : x ∈ grpL H ms (k : Int) := grpL_mem.2 ⟨e2, h4⟩
          rw [hc] at this; simp at this
  · rw [if_neg hc]
    have hne : grpL H ms (k : Int) ≠ [] := fun h => hc (.inr h)
    have hfm := fwdL_mem (H := H) hne
    have hfm2 := grpL_mem.1 hfm
    have hfr : fwdL H (grpL H ms (k : Int)) ≠ r := fun e => hr (e ▸ hfm2.1)
    have hra : rootAt H r ms (k : Int) = [fwdL H (grpL H ms (k : Int))] := by unfold rootAt; rw [if_neg hc]
    generalize hfe : fwdL H (grpL H ms (k : Int)) = f at *
    by_cases hx : x = r
    · subst hx
      rw [hroot _ hra]
      unfold addI
      rw [if_neg hfr, if_pos rfl]
    · by_cases hxf : x = f
      · subst hxf
        have e1 : addI (addI (chK H r ms k) r [x]) x ((grpL H ms (k : Int)).filter (fun y => decide (y ≠ x))) x = chK H r ms k x ++ (grpL H ms (k : Int)).filter (fun y => decide (y ≠ x)) := by
          unfold addI; rw [if_pos rfl, if_neg (Ne.symm hx)]
        have e2 : chK H r ms k x = [] := by
          unfold chK
          rw [if_neg hx, if_neg (by rw [hfm2.2]; omega)]
        have e3 : chK H r ms (k + 1) x = (grpL H ms (k : Int)).filter (fun y => decide (y ≠ x)) := by
          have hf : isFwd H r ms x = true := by
            unfold isFwd
            refine decide_eq_true ⟨by rw [hfm2.2]; exact fun e => hc (.inl e), hfm2.1, ?_⟩
            rw [hfm2.2]; exact hfe.symm
          unfold chK
          rw [if_neg hx, if_pos ⟨hf, by rw [hfm2.2]; omega, by rw [hfm2.2]; omega⟩, hfm2.2]
        rw [e1, e2, e3, List.nil_append]
      · have e1 : addI (addI (chK H r ms k) r [f]) f ((grpL H ms (k : Int)).filter (fun y => decide (y ≠ f))) x = chK H r ms k x := by
          unfold addI; rw [if_neg (Ne.symm hxf), if_neg (Ne.symm hx)]
        rw [e1]
        unfold chK
        rw [if_neg hx, if_neg hx]
        by_cases hf : isFwd H r ms x = true ∧ 0 ≤ coreN H x ∧ coreN H x < (k : Int)
        · rw [if_pos hf, if_pos ⟨hf.1, hf.2.1, by omega⟩]
        · rw [if_neg hf, if_neg]
          rintro ⟨h1, h2, h3⟩
          have h4 : coreN H x = (k : Int) := by
            have : ¬ coreN H x < (k : Int) := fun h => hf ⟨h1, h2, h⟩
            omega
          unfold isFwd at h1
          obtain ⟨-, -, e3⟩ := of_decide_eq_true h1
          rw [h4, hfe] at e3
          exact hxf e3

/-! ### the tree -/
theorem chP_root : chP H r ms r = (List.range 64).flatMap (fun i : Nat => rootAt H r ms (i : Int)) := by
  unfold chP chK; rw [if_pos rfl]
theorem chP_mem {a b : Int} (h : b ∈ chP H r ms a) : b ∈ ms := by
  unfold chP chK at h
  by_cases e : a = r
  · rw [if_pos e] at h
    obtain ⟨i, -, hi⟩ := List.mem_flatMap.1 h
    unfold rootAt at hi
    by_cases c : (i : Int) = coreN H r ∨ grpL H ms (i : Int) = []
    · rw [if_pos c] at hi; exact (grpL_mem.1 hi).1
    · rw [if_neg c] at hi
      rw [List.mem_singleton.1 hi]
      exact (grpL_mem.1 (fwdL_mem fun e => c (.inr e))).1
  · rw [if_neg e] at h
    split at h
    · exact (grpL_mem.1 (List.mem_filter.1 h).1).1
    · simp at h
theorem chP_other {a b : Int} (e : a ≠ r) (h : b ∈ chP H r ms a) : isFwd H r ms a = true ∧ 0 ≤ coreN H a ∧ coreN H a < 64 ∧ coreN H b = coreN H a ∧ b ≠ a := by
  unfold chP chK at h
  rw [if_neg e] at h
  split at h
  · rename_i hf
    obtain ⟨h1, h2⟩ := List.mem_filter.1 h
    exact ⟨hf.1, hf.2.1, hf.2.2, (grpL_mem.1 h1).2, of_decide_eq_true h2⟩
  · simp at h
theorem chP_leaf {a b : Int} (e : a ≠ r) (hr : r ∉ ms) (h : b ∈ chP H r ms a) : chP H r ms b = [] := by
  obtain ⟨h1, -, -, h2, h3⟩ := chP_other e h
  have hb := chP_mem h
  have hbr : b ≠ r := fun e => hr (e ▸ hb)
  refine List.eq_nil_iff_forall_not_mem.2 fun c hc => ?_
  obtain ⟨k1, -, -, k2, k3⟩ := chP_other hbr hc
  unfold isFwd at h1 k1
  obtain ⟨-, -, e1⟩ := of_decide_eq_true h1
  obtain ⟨-, -, e2⟩ := of_decide_eq_true k1
  rw [h2] at e2
  exact h3 (e2.trans e1.symm)
theorem chP_dep (hr : r ∉ ms) : Dep (chP H r ms) 3 r := by
  intro a ha b hb
  have har : a ≠ r := fun e => hr (e ▸ chP_mem ha)
  intro c hc
  rw [chP_leaf har hr hb] at hc
  simp at hc
theorem chP_rch {a b : Int} (h : Rch (chP H r ms) a b) : b = a ∨ b ∈ ms := by
  induction h with
  | refl => exact .inl rfl
  | step hm _ ih =>
    rcases ih with rfl | ih
    · exact .inr (chP_mem hm)
    · exact .inr ih
theorem rootAt_len {n : Int} : (rootAt H r ms n).length ≤ (grpL H ms n).length := by
  unfold rootAt
  split
  · exact Nat.le_refl _
  · rename_i h
    have : grpL H ms n ≠ [] := fun e => h (.inr e)
    have := List.length_pos_iff.2 this
    rw [List.length_singleton]; exact this
theorem grp_sum (k : Nat) : ((List.range k).flatMap (fun i : Nat => grpL H ms (i : Int))).length ≤ ms.length := by
  have h : ∀ l : List Int, ((List.range k).flatMap (fun i : Nat => l.filter fun x => decide (coreN H x = (i : Int)))).length ≤ l.length := by
    intro l
    induction l with
    | nil =>
      have : ((List.range k).flatMap fun i : Nat => ([] : List Int).filter fun x => decide (coreN H x = (i : Int))) = [] := List.flatMap_eq_nil_iff.2 fun _ _ => rfl
      rw [this]; simp
    | cons x l ih =>
      simp only [List.length_flatMap] at ih ⊢
      have : ∀ k : Nat, ((List.range k).map fun i : Nat => ((x :: l).filter fun x => decide (coreN H x = (i : Int))).length).sum ≤ ((List.range k).map fun i : Nat => (l.filter fun x => decide (coreN H x = (i : Int))).length).sum + (if 0 ≤ coreN H x ∧ coreN H x < (k : Int) then 1 else 0) := by
        intro k
        induction k with
        | zero => simp
        | succ k ihk =>
          rw [List.range_succ, List.map_append, List.map_append, List.sum_append, List.sum_append]
          simp only [List.map_cons, List.map_nil, List.sum_cons, List.sum_nil, Nat.add_zero]
          by_cases e : coreN H x = (k : Int)
          · rw [List.filter_cons_of_pos (by simpa using e), List.length_cons, if_pos (by omega)]
            rw [if_neg (by omega)] at ihk
            omega
          · rw [List.filter_cons_of_neg (by simpa using e)]
            by_cases c : 0 ≤ coreN H x ∧ coreN H x < (k : Int)
            · rw [if_pos c] at ihk; rw [if_pos (by omega)]; omega
            · rw [if_neg c] at ihk; rw [if_neg (by omega)]; omega
      have := this k
      rw [List.length_cons]
      split at this <;> omega
  exact h ms
theorem chK_len {k : Nat} {x : Int} : (chK H r ms k x).length ≤ ms.length := by
  unfold chK
  split
  · refine Nat.le_trans ?_ (grp_sum (H := H) k)
    rw [List.length_flatMap, List.length_flatMap]
    generalize List.range k = rk
    induction rk with
    | nil => simp
    | cons i rk ih =>
      simp only [List.map_cons, List.sum_cons]
      have := rootAt_len (H := H) (r := r) (ms := ms) (n := (i : Int))
      omega
  · split
    · exact Nat.le_trans (List.length_filter_le _ _) grpL_len
    · simp
/-- The tree, and the errors that come ahead of it. -/
noncomputable def planE (H : HwT) (r : Int) (ms : List Int) (cost : Int) : List Pl := (r :: srt (farI H) cost (chP H r ms) r).flatMap fun f => (srt (farI H) cost (chP H r ms) f).map fun t => (f, t)
noncomputable def planErr (H : HwT) (r : Int) (ms : List Int) (cost : Int) : Int := if validS H ≠ 0 then validS H else if memErr H r ms ≠ 0 then memErr H r ms else if cost < 0 ∨ 1000000 < cost then 6 else 0
noncomputable def planS (H : HwT) (r : Int) (ms : List Int) (cost : Int) : Int × List Pl := if planErr H r ms cost = 0 then (r, planE H r ms cost) else (0, [])
end
end Go.Proofs.YteiijmclobggjaaGreat
end
/- The plan's tree: whom it reaches, that it is valid, and that an exchange of two edges of one sender leaves it valid. -/
section
open Go Mk
namespace Go.Proofs.YteiijmclobggjaaGreat

/-! ### what is given -/
structure PlanOk (H : HwT) (r : Int) (ms : List Int) : Prop where
  v : validS H = 0
  kr : (findC H.Cores r).2 = true
  km : ∀ a ∈ ms, (findC H.Cores a).2 = true
  nr : r ∉ ms
  nd : ms.Nodup
section
variable {H : HwT} {r : Int} {ms : List Int}
theorem PlanOk.mem (p : PlanOk H r ms) : memErr H r ms = 0 := by
  unfold memErr
  have h1 : (r :: ms).all (fun id => (findC H.Cores id).2) = true := List.all_eq_true.2 fun x hx => by
    rcases List.mem_cons.1 hx with rfl | hx
    · exact p.kr
    · exact p.km x hx
  have h2 : decP (r :: ms).Nodup = true := decP_t (List.nodup_cons.2 ⟨p.nr, p.nd⟩)
  rw [if_neg (by rw [h1]; simp), if_neg (by rw [h2]; simp)]
theorem PlanOk.err (p : PlanOk H r ms) {cost : Int} (hc : 0 ≤ cost ∧ cost ≤ 1000000) : planErr H r ms cost = 0 := by
  unfold planErr
  rw [if_neg (by rw [p.v]; simp), if_neg (by rw [p.mem]; simp), if_neg (by omega)]
theorem PlanOk.rng (p : PlanOk H r ms) {a : Int} (h : a ∈ ms) : 0 ≤ coreN H a ∧ coreN H a < 64 := coreN_rng p.v (p.km a h)

theorem rootAt_mem {n b : Int} (h : b ∈ rootAt H r ms n) : b ∈ ms ∧ coreN H b = n := by
  unfold rootAt at h
  by_cases c : n = coreN H r ∨ grpL H ms n = []
  · rw [if_pos c] at h; exact grpL_mem.1 h
  · rw [if_neg c] at h
    rw [List.mem_singleton.1 h]
    exact grpL_mem.1 (fwdL_mem fun e => c (.inr e))
theorem rootAt_nodup (h : ms.Nodup) (n : Int) : (rootAt H r ms n).Nodup := by
  unfold rootAt
  split
  · exact h.filter _
  · simp
theorem flatMap_nodup {α β : Type} {f : α → List β} : ∀ {l : List α}, l.Nodup → (∀ a ∈ l, (f a).Nodup) → (∀ a ∈ l, ∀ b ∈ l, ∀ x, x ∈ f a → x ∈ f b → a = b) → (l.flatMap f).Nodup
  | [], _, _, _ => by simp
  | a :: l, hn, h1, h2 => by
    rw [List.nodup_cons] at hn
    rw [List.flatMap_cons, List.nodup_append]
    refine ⟨h1 a (by simp), flatMap_nodup hn.2 (fun b hb => h1 b (by simp [hb])) (fun b hb c hc => h2 b (by simp [hb]) c (by simp [hc])), fun x hx y hy e => ?_⟩
    subst e
    obtain ⟨b, hb, hxb⟩ := List.mem_flatMap.1 hy
    have := h2 a (by simp) b (by simp [hb]) x hx hxb
    subst this
    exact hn.1 hb
theorem chP_root_nodup (h : ms.Nodup) : (chP H r ms r).Nodup := by
  rw [chP_root]
  refine flatMap_nodup List.nodup_range (fun i _ => rootAt_nodup h _) fun i _ j _ x hi hj => ?_
  have h1 := (rootAt_mem hi).2
  have h2 := (rootAt_mem hj).2
  omega
theorem chP_nodup (h : ms.Nodup) (x : Int) : (chP H r ms x).Nodup := by
  by_cases e : x = r
  · subst e; exact chP_root_nodup h
  · unfold chP chK
    rw [if_neg e]
    split
    · exact (h.filter _).filter _
    · simp
theorem chP_root_mem {b : Int} (h : b ∈ chP H r ms r) : b ∈ rootAt H r ms (coreN H b) := by
  rw [chP_root] at h
  obtain ⟨i, -, hi⟩ := List.mem_flatMap.1 h
  rw [(rootAt_mem hi).2]
  exact hi
/-- A child of a forwarder is no child of the root. -/
theorem chP_apart {f b : Int} (hf : f ≠ r) (h : b ∈ chP H r ms f) : b ∉ chP H r ms r := fun hb => by
  obtain ⟨h1, -, -, h2, h3⟩ := chP_other hf h
  have hb := chP_root_mem hb
  unfold isFwd at h1
  obtain ⟨e1, e2, e3⟩ := of_decide_eq_true h1
  unfold rootAt at hb
  rw [h2, if_neg] at hb
  · rw [← e3] at hb
    exact h3 (List.mem_singleton.1 hb)
  · rintro (c | c)
    · exact e1 c
    · have : f ∈ grpL H ms (coreN H f) := grpL_mem.2 ⟨e2, rfl⟩
      rw [c] at this; simp at this
theorem chP_one {f g b : Int} (hf : f ≠ r) (hg : g ≠ r) (h : b ∈ chP H r ms f) (k : b ∈ chP H r ms g) : f = g := by
  obtain ⟨h1, -, -, h2, -⟩ := chP_other hf h
  obtain ⟨k1, -, -, k2, -⟩ := chP_other hg k
  unfold isFwd at h1 k1
  obtain ⟨-, -, e1⟩ := of_decide_eq_true h1
  obtain ⟨-, -, e2⟩ := of_decide_eq_true k1
  rw [e1, e2, ← h2, ← k2]
/-- Every member is reached. -/
theorem chP_all (p : PlanOk H r ms) {b : Int} (h : b ∈ ms) : b ∈ chP H r ms r ∨ ∃ f ∈ chP H r ms r, f ≠ r ∧ b ∈ chP H r ms f := by
  have hr := p.rng h
  have hin : ∀ {x : Int}, x ∈ rootAt H r ms (coreN H b) → x ∈ chP H r ms r := fun {x} hx => by
    rw [chP_root]
    refine List.mem_flatMap.2 ⟨(coreN H b).toNat, by simp; omega, ?_⟩
    rw [show (((coreN H b).toNat : Nat) : Int) = coreN H b by omega]
    exact hx
  have hg : b ∈ grpL H ms (coreN H b) := grpL_mem.2 ⟨h, rfl⟩
  have hne : grpL H ms (coreN H b) ≠ [] := fun e => by rw [e] at hg; simp at hg
  by_cases c : coreN H b = coreN H r
  · left
    refine hin ?_
    unfold rootAt
    rw [if_pos (.inl c)]
    exact hg
  · have hra : rootAt H r ms (coreN H b) = [fwdL H (grpL H ms (coreN H b))] := by unfold rootAt; rw [if_neg fun e => e.elim c hne]
    have hf := grpL_mem.1 (fwdL_mem (H := H) hne)
    have hfn : fwdL H (grpL H ms (coreN H b)) ≠ r := fun h => p.nr (by rw [← h]; exact hf.1)
    have hfr : fwdL H (grpL H ms (coreN H b)) ∈ chP H r ms r := hin (by rw [hra]; simp)
    by_cases e : b = fwdL H (grpL H ms (coreN H b))
    · left; rw [e]; exact hfr
    · right
      refine ⟨_, hfr, hfn, ?_⟩
      unfold chP chK
      rw [if_neg hfn, if_pos, hf.2]
      · exact List.mem_filter.2 ⟨hg, by simpa using e⟩
      · refine ⟨?_, by rw [hf.2]; omega, by rw [hf.2]; omega⟩
        unfold isFwd
        exact decide_eq_true ⟨by rw [hf.2]; exact c, hf.1, by rw [hf.2]⟩
theorem srt_mem {cost : Int} {x y : Int} : y ∈ srt (farI H) cost (chP H r ms) x ↔ y ∈ chP H r ms x := (srt_perm x).mem_iff

/-- Whom the edges reach. -/
theorem planE_tos {cost : Int} (p : PlanOk H r ms) : ((planE H r ms cost).map (·.2)).Perm ms := by
  have e : (planE H r ms cost).map (·.2) = (r :: srt (farI H) cost (chP H r ms) r).flatMap fun f => srt (farI H) cost (chP H r ms) f := by
    unfold planE
    rw [List.map_flatMap]
    congr 1
    funext f
    rw [List.map_map]
    exact (List.map_congr_left fun x _ => rfl).trans (List.map_id _)
  rw [e]
  have hnr : r ∉ srt (farI H) cost (chP H r ms) r := fun h => p.nr (chP_mem (srt_mem.1 h))
  have hnd : (srt (farI H) cost (chP H r ms) r).Nodup := (srt_perm r).nodup_iff.2 (chP_root_nodup p.nd)
  refine (List.perm_ext_iff_of_nodup ?_ p.nd).2 fun b => ?_
  · refine flatMap_nodup (List.nodup_cons.2 ⟨hnr, hnd⟩) (fun f _ => (srt_perm f).nodup_iff.2 (chP_nodup p.nd f)) fun f _ g _ b hf hg => ?_
    have hf := srt_mem.1 hf
    have hg := srt_mem.1 hg
    by_cases e1 : f = r <;> by_cases e2 : g = r
    · rw [e1, e2]
    · subst e1; exact absurd hf (chP_apart e2 hg)
    · subst e2; exact absurd hg (chP_apart e1 hf)
    · exact chP_one e1 e2 hf hg
  · rw [List.mem_flatMap]
    constructor
    · rintro ⟨f, -, hf⟩
      exact chP_mem (srt_mem.1 hf)
    · intro hb
      rcases chP_all p hb with h | ⟨f, hf, -, h⟩
      · exact ⟨r, by simp, srt_mem.2 h⟩
      · exact ⟨f, List.mem_cons.2 (.inr (srt_mem.2 hf)), srt_mem.2 h⟩
theorem planE_len {cost : Int} (p : PlanOk H r ms) : (planE H r ms cost).length = ms.length := by
  rw [← (planE_tos (cost := cost) p).length_eq, List.length_map]

/-! ### blocks of edges -/
def cntF (es : List Pl) (m : Nat) (f : Int) : Nat := (es.take m).countP fun e => decide (e.1 = f)
def blocks (K : Int → List Int) (fs : List Int) : List Pl := fs.flatMap fun f => (K f).map fun t => (f, t)
theorem planE_blocks {cost : Int} : planE H r ms cost = blocks (srt (farI H) cost (chP H r ms)) (r :: srt (farI H) cost (chP H r ms) r) := rfl
theorem count_block {K : List Int} {f g : Int} (m : Nat) : ((K.map fun t => ((f, t) : Pl)).take m).countP (fun e => decide (e.1 = g)) = if f = g then min m K.length else 0 := by
  rw [← List.map_take, List.countP_map]
  by_cases e : f = g
  · subst e
    rw [if_pos rfl]
    have : ((fun e : Pl => decide (e.1 = f)) ∘ fun t => ((f, t) : Pl)) = fun _ => true := by funext t; simp
    rw [this, List.countP_true]
    simp
  · rw [if_neg e]
    have : ((fun e : Pl => decide (e.1 = g)) ∘ fun t => ((f, t) : Pl)) = fun _ => false := by funext t; simp [e]
    rw [this, List.countP_false]; rfl
theorem cntF_app {A B : List Pl} {m : Nat} {f : Int} : cntF (A ++ B) m f = cntF A m f + cntF B (m - A.length) f := by
  unfold cntF
  rw [List.take_append, List.countP_append]
theorem block_at {K : Int → List Int} : ∀ {fs : List Int}, fs.Nodup → ∀ {m : Nat} {e : Pl}, (blocks K fs)[m]? = some e → e.1 ∈ fs ∧ (K e.1)[cntF (blocks K fs) m e.1]? = some e.2
  | [], _, m, e, h => by simp [blocks] at h
  | f :: fs, hn, m, e, h => by
    rw [List.nodup_cons] at hn
    have hb : blocks K (f :: fs) = ((K f).map fun t => ((f, t) : Pl)) ++ blocks K fs := rfl
    rw [hb] at h ⊢
    rw [cntF_app]
    have hc := count_block (K := K f) (f := f) (g := e.1) m
    by_cases hm : m < (K f).length
    · rw [List.getElem?_append_left (by simpa using hm)] at h
      obtain ⟨t, ht, rfl⟩ : ∃ t, (K f)[m]? = some t ∧ (f, t) = e := by simpa using h
      refine ⟨by simp, ?_⟩
      show (K f)[cntF _ m f + cntF _ _ f]? = some t
      have h0 : m - ((K f).map fun t => ((f, t) : Pl)).length = 0 := by simp; omega
      rw [h0]
      have h1 : cntF (blocks K fs) 0 f = 0 := by simp [cntF]
      have h2 : cntF ((K f).map fun t => ((f, t) : Pl)) m f = m := by
        unfold cntF
        rw [count_block, if_pos rfl]; omega
      rw [h1, h2]
      exact ht
    · rw [List.getElem?_append_right (by simp; omega)] at h
      obtain ⟨h1, h2⟩ := block_at hn.2 h
      refine ⟨by simp [h1], ?_⟩
      have hne : f ≠ e.1 := fun e' => hn.1 (e' ▸ h1)
      have h3 : cntF ((K f).map fun t => ((f, t) : Pl)) m e.1 = 0 := by
        unfold cntF
        rw [count_block, if_neg hne]
      rw [h3, Nat.zero_add]
      exact h2
/-! ### one sender's edges lie together -/
def Together (es : List Pl) : Prop := ∀ (j m i : Nat) (a b : Pl), j ≤ m → m ≤ i → es[j]? = some a → es[i]? = some b → a.1 = b.1 → ∀ c, es[m]? = some c → c.1 = a.1
theorem together_blocks {K : Int → List Int} : ∀ {fs : List Int}, fs.Nodup → Together (blocks K fs)
  | [], _ => fun j m i a b _ _ h => by simp [blocks] at h
  | f :: fs, hn => by
    rw [List.nodup_cons] at hn
    have hb : blocks K (f :: fs) = ((K f).map fun t => ((f, t) : Pl)) ++ blocks K fs := rfl
    rw [hb]
    intro j m i a b hjm hmi ha hb' hab c hc
    have hin : ∀ {q : Nat} {x : Pl}, (blocks K fs)[q]? = some x → x.1 ∈ fs := fun {q x} h => (block_at hn.2 h).1
    have hlo : ∀ {q : Nat} {x : Pl}, q < (K f).length → (((K f).map fun t => ((f, t) : Pl)) ++ blocks K fs)[q]? = some x → x.1 = f := fun {q x} hq h => by
      rw [List.getElem?_append_left (by simpa using hq)] at h
      obtain ⟨t, -, rfl⟩ : ∃ t, (K f)[q]? = some t ∧ (f, t) = x := by simpa using h
      rfl
    have hhi : ∀ {q : Nat} {x : Pl}, ¬ q < (K f).length → (((K f).map fun t => ((f, t) : Pl)) ++ blocks K fs)[q]? = some x → (blocks K fs)[q - (K f).length]? = some x := fun {q x} hq h => by
      rw [List.getElem?_append_right (by simp; omega)] at h
      simpa using h
    by_cases h1 : i < (K f).length
    · rw [hlo (by omega) ha, hlo (by omega) hc]
    · have hb2 := hhi h1 hb'
      by_cases h2 : j < (K f).length
      · have := hlo h2 ha
        have h3 := hin hb2
        rw [← hab, this] at h3
        exact absurd h3 hn.1
      · exact together_blocks hn.2 (j - (K f).length) (m - (K f).length) (i - (K f).length) a b (by omega) (by omega) (hhi h2 ha) hb2 hab c (hhi (by omega) hc)
theorem together_done {es : List Pl} (h : Together es) {i : Nat} {e : Pl} (he : es[i]? = some e) : ¬ DoneAt es i e.1 := by
  rintro ⟨j, a, b, hj, ha, hb, hab, hae⟩
  exact hab (h j (j + 1) i a e (by omega) hj ha he hae b hb).symm
theorem proto_together {r : Int} {es : List Pl} (h : ProtoP r es) : Together es := fun j m i a b hjm hmi ha hb hab c hc => by
  have hd := (h i b hb).2
  have key : ∀ d, j + d ≤ i → ∀ c, es[j + d]? = some c → c.1 = a.1 := by
    intro d
    induction d with
    | zero => intro _ c hc; rw [Nat.add_zero, ha] at hc; cases hc; rfl
    | succ d ih =>
      intro hd2 c hc
      obtain ⟨c0, hc0⟩ : ∃ c0, es[j + d]? = some c0 := by
        have := (List.getElem?_eq_some_iff.1 hc).1
        exact ⟨_, List.getElem?_eq_getElem (by omega)⟩
      have h0 := ih (by omega) c0 hc0
      by_cases e : c0.1 = c.1
      · rw [← e]; exact h0
      · exact absurd ⟨j + d, c0, c, by omega, hc0, hc, e, h0.trans hab⟩ hd
  have := key (m - j) (by omega) c (by rw [show j + (m - j) = m by omega]; exact hc)
  exact this

theorem planE_froms {cost : Int} (p : PlanOk H r ms) : (r :: srt (farI H) cost (chP H r ms) r).Nodup :=
  List.nodup_cons.2 ⟨fun h => p.nr (chP_mem (srt_mem.1 h)), (srt_perm r).nodup_iff.2 (chP_root_nodup p.nd)⟩
/-- The root's edges come first. -/
theorem planE_first {cost : Int} {m : Nat} (h : m < (srt (farI H) cost (chP H r ms) r).length) : ∃ c, (srt (farI H) cost (chP H r ms) r)[m]? = some c ∧ (planE H r ms cost)[m]? = some (r, c) := by
  refine ⟨_, List.getElem?_eq_getElem h, ?_⟩
  rw [planE_blocks]
  have hb : blocks (srt (farI H) cost (chP H r ms)) (r :: srt (farI H) cost (chP H r ms) r) = ((srt (farI H) cost (chP H r ms) r).map fun t => ((r, t) : Pl)) ++ blocks (srt (farI H) cost (chP H r ms)) (srt (farI H) cost (chP H r ms) r) := rfl
  rw [hb, List.getElem?_append_left (by simpa using h)]
  simp [h]
theorem planE_later {cost : Int} {m : Nat} {e : Pl} (h : ¬ m < (srt (farI H) cost (chP H r ms) r).length) (he : (planE H r ms cost)[m]? = some e) : e.1 ∈ srt (farI H) cost (chP H r ms) r := by
  rw [planE_blocks] at he
  have hb : blocks (srt (farI H) cost (chP H r ms)) (r :: srt (farI H) cost (chP H r ms) r) = ((srt (farI H) cost (chP H r ms) r).map fun t => ((r, t) : Pl)) ++ blocks (srt (farI H) cost (chP H r ms)) (srt (farI H) cost (chP H r ms) r) := rfl
  rw [hb, List.getElem?_append_right (by simp; omega)] at he
  obtain ⟨f, hf, h2⟩ := List.mem_flatMap.1 (List.mem_of_getElem? he)
  obtain ⟨t, -, rfl⟩ := List.mem_map.1 h2
  exact hf
theorem planE_proto {cost : Int} (p : PlanOk H r ms) : ProtoP r (planE H r ms cost) := fun i e he => by
  refine ⟨?_, together_done (by rw [planE_blocks]; exact together_blocks (planE_froms p)) he⟩
  by_cases h : i < (srt (farI H) cost (chP H r ms) r).length
  · obtain ⟨c, -, hc⟩ := planE_first h
    rw [hc] at he
    cases he
    simp
  · have hf := planE_later h he
    obtain ⟨q, hq⟩ := List.getElem?_of_mem hf
    have hql := (List.getElem?_eq_some_iff.1 hq).1
    obtain ⟨c, hc, hc2⟩ := planE_first hql
    rw [hq] at hc
    cases hc
    refine List.mem_cons.2 (.inr (List.mem_map.2 ⟨(r, e.1), ?_, rfl⟩))
    refine List.mem_of_getElem? (i := q) ?_
    rw [List.getElem?_take, if_pos (by omega)]
    exact hc2
theorem planE_tree {cost : Int} (p : PlanOk H r ms) : treeErr H r (planE H r ms cost) = 0 := by
  have ht := planE_tos (cost := cost) p
  have h1 : ((findC H.Cores r).2 && (planE H r ms cost).all (knownT H)) = true := by
    rw [p.kr, Bool.true_and, List.all_eq_true]
    intro e he
    have h2 : e.2 ∈ ms := ht.mem_iff.1 (List.mem_map_of_mem he)
    have h3 : e.1 = r ∨ e.1 ∈ ms := by
      obtain ⟨f, hf, h3⟩ := List.mem_flatMap.1 he
      obtain ⟨t, -, rfl⟩ := List.mem_map.1 h3
      rcases List.mem_cons.1 hf with hf | hf
      · exact .inl hf
      · exact .inr (chP_mem (srt_mem.1 hf))
    unfold knownT
    rw [p.km _ h2, Bool.and_true]
    rcases h3 with h3 | h3
    · rw [h3]; exact p.kr
    · exact p.km _ h3
  have h2 : (r :: (planE H r ms cost).map (·.2)).Nodup := List.nodup_cons.2 ⟨fun h => p.nr (ht.mem_iff.1 h), ht.nodup_iff.2 p.nd⟩
  unfold treeErr
  rw [if_pos p.v, if_pos h1, if_pos (decP_t h2), if_pos (decP_t (planE_proto p))]
end
end Go.Proofs.YteiijmclobggjaaGreat
end
/- Arrivals, walked. -/
section
open Go Mk
namespace Go.Proofs.YteiijmclobggjaaGreat
set_option maxHeartbeats 8000000
attribute [local irreducible] Calls
noncomputable def arrS (H : HwT) (r : Int) (es : List Pl) (cost : Int) : List Int × Int :=
  if treeErr H r es = 0 then (if cost < 0 ∨ 1000000 < cost then ([], 6) else (arrF (farI H) cost (fun _ => 0) (fun _ => 0) es, 0)) else ([], treeErr H r es)
theorem arrivals_any {Γ : Gho} {u v : Value} {H : HwT} [hh : HwR Γ u H] {es : List Pl} [hr : SlC Γ v 2 (es.map plV)] [hsh : ShortL es] (r cost : Int) {S : List Res} {w : World} (hw : Wd Γ S w) :
    Calls Tryz.prog 13 #[u, .agg #[.int .i64 r, v], .int .i64 cost] w fun e w' => ∃ vo, e = .returned (.tuple #[vo, .int .i64 (arrS H r es cost).2]) ∧ Wd Γ (.own vo 3 1 (intRows (arrS H r es cost).1) :: S) w' := by
  have hh' := hh
  obtain ⟨a1, n1, c1, a2, n2, c2, a3, n3, c3, a4, n4, c4, a5, n5, c5, cs, rfl, -⟩ := hh.h
  have hrs := hr.h
  obtain ⟨am, nm, cm, rfl, hnm, hnmc, hcm⟩ := hr.h.shape
  simp only [List.length_map] at hnm
  have hms := hsh.h
  refine calls_of_W Tryz.func13 rfl rfl ?_
  repeat (first | refine byW ?_ | (refine byV ?_; intro w hw))
  refine lBox ?_
  intro b3 w hw
  refine lBox ?_
  intro b4 w hw
  have hw : Wd Γ (.blk b4 (.cells #[.int .i64 r, .slice am nm cm] 32) :: .blk b3 (.cells #[.string H.Name, .slice a1 n1 c1, .slice a2 n2 c2, .slice a3 n3 c3, .slice a4 n4 c4, .slice a5 n5 c5] 28) :: S) w := hw
  unfold arrS
  repeat (first | refine byW ?_ | (refine byV ?_; intro w hw))
  refine W_cond rfl (fun h => ?_) (fun h => ?_)
  · have h : ¬ treeErr H r es = 0 := by simpa using h
    rw [if_neg h]
    repeat (first | refine byW ?_ | (refine byV ?_; intro w hw))
    exact ⟨_, rfl, _, rfl, Wd.addNil (hw.ds [0, 0])⟩
  have h : treeErr H r es = 0 := by simpa using h
  rw [if_pos h]
  have hv : validS H = 0 := by
    unfold treeErr at h
    by_cases e : validS H = 0
    · exact e
    · rw [if_neg e] at h; exact absurd h e
  have hkn : ∀ e ∈ es, (findC H.Cores e.1).2 = true ∧ (findC H.Cores e.2).2 = true := by
    unfold treeErr at h
    rw [if_pos hv] at h
    by_cases e : ((findC H.Cores r).2 && es.all (knownT H)) = true
    · intro x hx
      have := List.all_eq_true.1 (Bool.and_eq_true_iff.1 e).2 x hx
      unfold knownT at this
      exact Bool.and_eq_true_iff.1 this
    · rw [if_neg e] at h; cases h
  repeat (first | refine byW ?_ | (refine byV ?_; intro w hw))
  refine W_cond rfl (fun h2 => ?_) (fun h2 => ?_)
  · have h2 : (decide (cost < 0) || decide (cost > 1000000)) = true := h2
    rw [if_pos (by simp at h2; omega)]
    repeat (first | refine byW ?_ | (refine byV ?_; intro w hw))
    exact ⟨_, rfl, _, rfl, Wd.addNil (hw.ds [0, 0])⟩
  have h2 : (decide (cost < 0) || decide (cost > 1000000)) = false := h2
  have hc : 0 ≤ cost ∧ cost ≤ 1000000 := by simp at h2; omega
  rw [if_neg (by omega)]
  clear h2
  repeat (first | refine byW ?_ | (refine byV ?_; intro w hw))
  refine L_step rfl rfl (s_makeMap (K := 3) (α := Int) (f := (id : Value → Value)) hw fun bm w hw => ?_)
  repeat (first | refine byW ?_ | (refine byV ?_; intro w hw))
  refine lBox ?_
  intro bb w hw
  have hw := btwP_new (Γ := Γ) (bb := bb) (H := H) (bm := bm) (a1 := a1) (n1 := n1) (c1 := c1) (a2 := a2) (n2 := n2) (c2 := c2) (a3 := a3) (n3 := n3) (c3 := c3) (a4 := a4) (n4 := n4) (c4 := c4) (a5 := a5) (n5 := n5) (c5 := c5) hw
  repeat (first | refine byW ?_ | (refine byV ?_; intro w hw))
  refine L_step rfl rfl (s_makeMap (K := 3) (α := Int) (f := fun n : Int => Value.int .i64 n) hw fun bs w hw => ?_)
  have hw := hw.ps [2]
  repeat (first | refine byW ?_ | (refine byV ?_; intro w hw))
  refine L_step rfl rfl (s_insert (s_mapUpdate (P := Tryz.prog) (K := 3) (α := Int) (f := fun n : Int => Value.int .i64 n) (i := 1) (v := (0 : Int)) (a := r) hw rfl rfl rfl rfl fun w hw => ?_))
  have hm0 : MapF (aSet ([] : List (Int × Int)) r 0) (fun _ => 0) := fun x => by
    rw [aGet_aSet]; split <;> rfl
  generalize hls : aSet ([] : List (Int × Int)) r 0 = ls at hm0
  have hw : Wd Γ (.blk b4 (.cells #[.int .i64 r, .slice am nm cm] 32) :: Res.mpT Tryz.prog 3 (fun n : Int => Value.int .i64 n) bs ls :: btwP bb H a1 n1 c1 a2 n2 c2 a3 n3 c3 a4 n4 c4 a5 n5 c5 :: .blk b3 (.cells #[.string H.Name, .slice a1 n1 c1, .slice a2 n2 c2, .slice a3 n3 c3, .slice a4 n4 c4, .slice a5 n5 c5] 28) :: S) w := by rw [← hls]; exact hw
  clear hls
  repeat (first | refine byW ?_ | (refine byV ?_; intro w hw))
  refine L_step rfl rfl (s_makeMap (K := 3) (α := Int) (f := fun n : Int => Value.int .i64 n) hw fun bn w hw => ?_)
  have hw := hw.ps [1]
  repeat (first | refine byW ?_ | (refine byV ?_; intro w hw))
  refine lMakeSlice (len := nm) ?_
  intro ao w hw
  have hw : Wd Γ (.own (.slice (some ao) nm nm) 3 1 (intRows (List.replicate nm 0)) :: .blk b4 (.cells #[.int .i64 r, .slice am nm cm] 32) :: Res.mpT Tryz.prog 3 (fun n : Int => Value.int .i64 n) bn ([] : List (Int × Int)) :: Res.mpT Tryz.prog 3 (fun n : Int => Value.int .i64 n) bs ls :: btwP bb H a1 n1 c1 a2 n2 c2 a3 n3 c3 a4 n4 c4 a5 n5 c5 :: .blk b3 (.cells #[.string H.Name, .slice a1 n1 c1, .slice a2 n2 c2, .slice a3 n3 c3, .slice a4 n4 c4, .slice a5 n5 c5] 28) :: S) w := by
    have e : intRows (List.replicate nm 0) = List.replicate nm [.int .i64 0] := by unfold intRows; rw [List.map_replicate]
    rw [e]; exact hw
  repeat (first | refine byW ?_ | (refine byV ?_; intro w hw))
  refine W_loop (fun μ ρ w => ∃ (k : Nat) (st sn : Int → Int) (O : List Int) (ls ln : List (Int × Int)), μ + k = nm ∧ O.length = nm ∧ MapF ls st ∧ MapF ln sn ∧ (∀ x, 0 ≤ st x ∧ st x ≤ k * 2000000000) ∧ (∀ x, 0 ≤ sn x ∧ sn x ≤ k) ∧ O.take k ++ arrF (farI H) cost st sn (es.drop k) = arrF (farI H) cost (fun _ => 0) (fun _ => 0) es ∧ Has ρ [(2, .int .i64 cost), (9, .pointer (some ⟨bb, 0, none⟩)), (10, .map (some bs)), (11, .map (some bn)), (12, .slice (some ao) nm nm), (41, .slice am nm cm), (42, .int .i64 nm), (43, .int .i64 k)] ∧ Wd Γ (.own (.slice (some ao) nm nm) 3 1 (intRows O) :: .blk b4 (.cells #[.int .i64 r, .slice am nm cm] 32) :: Res.mpT Tryz.prog 3 (fun n : Int => Value.int .i64 n) bn ln :: Res.mpT Tryz.prog 3 (fun n : Int => Value.int .i64 n) bs ls :: btwP bb H a1 n1 c1 a2 n2 c2 a3 n3 c3 a4 n4 c4 a5 n5 c5 :: .blk b3 (.cells #[.string H.Name, .slice a1 n1 c1, .slice a2 n2 c2, .slice a3 n3 c3, .slice a4 n4 c4, .slice a5 n5 c5] 28) :: S) w) nm ⟨0, fun _ => 0, fun _ => 0, List.replicate nm 0, ls, [], by omega, by simp, hm0, fun _ => rfl, fun _ => ⟨Int.le_refl _, by simp⟩, fun _ => ⟨Int.le_refl _, by simp⟩, by simp, ⟨rfl, rfl, rfl, rfl, rfl, rfl, rfl, rfl, trivial⟩, hw⟩ ?_
  clear hw
  rintro μ ρ w ⟨k, st, sn, O, ls, ln, hk, hO, hls, hln, hst, hsn, hF, hρ, hw⟩
  rw [hρ.eq]
  clear hρ
  repeat (first | refine byW ?_ | (refine byV ?_; intro w hw))
  refine W_cond rfl (fun h => ?_) (fun h => ?_)
  · have hkn' : k < nm := by have := of_decide_eq_true h; omega
    obtain ⟨x, hx⟩ := get_lt (l := es) (k := k) (by omega)
    obtain ⟨hx1, hx2⟩ := hkn x (List.mem_of_getElem? hx)
    have hs1 := hst x.1
    have hn1 := hsn x.1
    have hfar := far_le hv hx1 hx2
    have hmul : 0 ≤ (sn x.1 + 1) * cost ∧ (sn x.1 + 1) * cost ≤ 1001000000 := ⟨Int.mul_nonneg (by omega) hc.1, Int.le_trans (Int.mul_le_mul (b := cost) (d := 1000000) (show sn x.1 + 1 ≤ 1001 by omega) hc.2 hc.1 (by omega)) (by omega)⟩
    repeat (first | refine byW ?_ | (refine byV ?_; intro w hw))
    refine lAlloc ?_
    intro b14 w hw
    repeat (first | refine byW ?_ | (refine byV ?_; intro w hw))
    refine lStore ?_
    intro w hw
    have hw : Wd Γ (.blk b14 (.cells (plV x).toArray 60) :: .own (.slice (some ao) nm nm) 3 1 (intRows O) :: .blk b4 (.cells #[.int .i64 r, .slice am nm cm] 32) :: Res.mpT Tryz.prog 3 (fun n : Int => Value.int .i64 n) bn ln :: Res.mpT Tryz.prog 3 (fun n : Int => Value.int .i64 n) bs ls :: btwP bb H a1 n1 c1 a2 n2 c2 a3 n3 c3 a4 n4 c4 a5 n5 c5 :: .blk b3 (.cells #[.string H.Name, .slice a1 n1 c1, .slice a2 n2 c2, .slice a3 n3 c3, .slice a4 n4 c4, .slice a5 n5 c5] 28) :: S) w := hw
    repeat (first | refine byW ?_ | (refine byV ?_; intro w hw))
    refine lY (v := .int .i64 (sn x.1)) ?_ (hy := y_lookupF hw hln (i := 3) rfl rfl rfl)
    repeat (first | refine byW ?_ | (refine byV ?_; intro w hw))
    refine L_step rfl rfl (s_mapUpdate (P := Tryz.prog) (K := 3) (α := Int) (f := fun n : Int => Value.int .i64 n) (i := 3) (v := sn x.1 + 1) (a := x.1) hw rfl rfl rfl rfl fun w hw => ?_)
    have hln' := mapF_set hln x.1 (sn x.1 + 1)
    generalize hgl : aSet ln x.1 (sn x.1 + 1) = ln2 at hw hln'
    have hsn2 : updI sn x.1 (sn x.1 + 1) x.1 = sn x.1 + 1 := by unfold updI; rw [if_pos rfl]
    have hcN1 := coreN_rng hv hx1
    have hcN2 := coreN_rng hv hx2
    have hw : Wd Γ ([.blk b14 (.cells (plV x).toArray 60), Res.mpT Tryz.prog 3 (fun n : Int => Value.int .i64 n) bn ln2, Res.mpT Tryz.prog 3 (fun n : Int => Value.int .i64 n) bs ls] ++ ([btwP bb H a1 n1 c1 a2 n2 c2 a3 n3 c3 a4 n4 c4 a5 n5 c5] ++ ([.own (.slice (some ao) nm nm) 3 1 (intRows O)] ++ ((.blk b4 (.cells #[.int .i64 r, .slice am nm cm] 32) :: .blk b3 (.cells #[.string H.Name, .slice a1 n1 c1, .slice a2 n2 c2, .slice a3 n3 c3, .slice a4 n4 c4, .slice a5 n5 c5] 28) :: S) ++ [])))) w := by
      rw [List.append_nil]
      exact hw.ps [5, 5, 5, 3]
    repeat (first | refine byW ?_ | (refine byV ?_; intro w hw))
    refine W_mixed [.blk b14 (.cells (plV x).toArray 60), Res.mpT Tryz.prog 3 (fun n : Int => Value.int .i64 n) bn ln2, Res.mpT Tryz.prog 3 (fun n : Int => Value.int .i64 n) bs ls] [fun _ => [btwP bb H a1 n1 c1 a2 n2 c2 a3 n3 c3 a4 n4 c4 a5 n5 c5], fun _ => [.own (.slice (some ao) nm nm) 3 1 (intRows O)], fun _ => .blk b4 (.cells #[.int .i64 r, .slice am nm cm] 32) :: .blk b3 (.cells #[.string H.Name, .slice a1 n1 c1, .slice a2 n2 c2, .slice a3 n3 c3, .slice a4 n4 c4, .slice a5 n5 c5] 28) :: S] [[],[],[],[],[],[],[],[],[],[],[],[],[],[],[],[],[],[],[0],[],[],[1]] [[],[],[],[],[],[],[],[],[],[],[],[],[],[],[],[],[],[],[0],[],[1],[1]] [[], [], []] (by exact hw) ?_
    repeat (first | refine mY ?_ | refine mP ?_ | refine mPg ?_)
    refine mY (v := .int .i64 (st x.1)) ?_ (hy := fun Y w g hw => y_lookupF hw hls (i := 2) rfl rfl rfl)
    repeat (first | refine mY ?_ | refine mP ?_ | refine mPg ?_)
    refine mY (v := .int .i64 (sn x.1 + 1)) ?_ (hy := fun Y w g hw => by rw [← hsn2]; exact y_lookupF hw hln' (i := 1) rfl rfl rfl)
    repeat (first | refine mY ?_ | refine mP ?_ | refine mPg ?_)
    refine mCallS (c := 0) (X := [btwP bb H a1 n1 c1 a2 n2 c2 a3 n3 c3 a4 n4 c4 a5 n5 c5]) [btwP bb H a1 n1 c1 a2 n2 c2 a3 n3 c3 a4 n4 c4 a5 n5 c5] (vs := [.pointer (some ⟨bb, 0, none⟩), .int .i64 x.1, .int .i64 x.2]) (v := .int .i64 (farI H x.1 x.2)) (fun R w hw => coresP_any (valid_links hv) hcN1 hcN2 hw) ?_
    repeat (first | refine mY ?_ | refine mP ?_ | refine mPg ?_)
    refine mStoreE (k := k) (r := [.int .i64 (st x.1 + (sn x.1 + 1) * cost + farI H x.1 x.2)]) ?_
    refine mEnd fun w g hw => ?_
    generalize ht : st x.1 + (sn x.1 + 1) * cost + farI H x.1 x.2 = t at hw
    have hw : Wd Γ ([.blk b14 (.cells (plV x).toArray 60), Res.mpT Tryz.prog 3 (fun n : Int => Value.int .i64 n) bn ln2, Res.mpT Tryz.prog 3 (fun n : Int => Value.int .i64 n) bs ls] ++ ([btwP bb H a1 n1 c1 a2 n2 c2 a3 n3 c3 a4 n4 c4 a5 n5 c5] ++ ([.own (.slice (some ao) nm nm) 3 1 (intRows (O.set k t))] ++ ((.blk b4 (.cells #[.int .i64 r, .slice am nm cm] 32) :: .blk b3 (.cells #[.string H.Name, .slice a1 n1 c1, .slice a2 n2 c2, .slice a3 n3 c3, .slice a4 n4 c4, .slice a5 n5 c5] 28) :: S) ++ [])))) w := by
      have e : intRows (O.set k t) = (intRows O).set k [.int .i64 t] := by unfold intRows; rw [List.map_set]
      rw [e]; exact hw
    rw [List.append_nil] at hw
    have hOk : (O.set k t)[k]? = some t := by rw [List.getElem?_set, if_pos rfl, if_pos (by omega)]
    have hw : Wd Γ ([.blk b14 (.cells (plV x).toArray 60), .own (.slice (some ao) nm nm) 3 1 (intRows (O.set k t))] ++ ([Res.mpT Tryz.prog 3 (fun n : Int => Value.int .i64 n) bs ls] ++ ((Res.mpT Tryz.prog 3 (fun n : Int => Value.int .i64 n) bn ln2 :: btwP bb H a1 n1 c1 a2 n2 c2 a3 n3 c3 a4 n4 c4 a5 n5 c5 :: .blk b4 (.cells #[.int .i64 r, .slice am nm cm] 32) :: .blk b3 (.cells #[.string H.Name, .slice a1 n1 c1, .slice a2 n2 c2, .slice a3 n3 c3, .slice a4 n4 c4, .slice a5 n5 c5] 28) :: S) ++ []))) w := by
      rw [List.append_nil]
      exact (hw.ps [1, 2, 4, 3])
    repeat (first | refine byW ?_ | (refine byV ?_; intro w hw))
    refine W_mixed [.blk b14 (.cells (plV x).toArray 60), .own (.slice (some ao) nm nm) 3 1 (intRows (O.set k t))] [fun _ => [Res.mpT Tryz.prog 3 (fun n : Int => Value.int .i64 n) bs ls], fun _ => Res.mpT Tryz.prog 3 (fun n : Int => Value.int .i64 n) bn ln2 :: btwP bb H a1 n1 c1 a2 n2 c2 a3 n3 c3 a4 n4 c4 a5 n5 c5 :: .blk b4 (.cells #[.int .i64 r, .slice am nm cm] 32) :: .blk b3 (.cells #[.string H.Name, .slice a1 n1 c1, .slice a2 n2 c2, .slice a3 n3 c3, .slice a4 n4 c4, .slice a5 n5 c5] 28) :: S] [[],[],[],[],[],[],[],[0]] [[],[],[],[],[],[],[],[0]] [[], []] (by exact hw) ?_
    repeat (first | refine mY ?_ | refine mP ?_ | refine mPg ?_)
    refine mM (v := undef) (fun _ => [Res.mpT Tryz.prog 3 (fun n : Int => Value.int .i64 n) bs (aSet ls x.2 t)]) (fun Y w g hw => by
      rw [cells1 (c := 0) rfl] at hw
      refine s_mapUpdate (P := Tryz.prog) (K := 3) (α := Int) (f := fun n : Int => Value.int .i64 n) (i := 2) (v := t) (a := x.2) hw rfl rfl rfl rfl fun w hw => ⟨?_, fun _ => rfl⟩
      rw [cells1 (c := 0) rfl, setC_self]
      exact hw) ?_ rfl rfl
    refine mEnd fun w g hw => ?_
    have hls' := mapF_set hls x.2 t
    have hw : Wd Γ ([.blk b14 (.cells (plV x).toArray 60), .own (.slice (some ao) nm nm) 3 1 (intRows (O.set k t))] ++ ([Res.mpT Tryz.prog 3 (fun n : Int => Value.int .i64 n) bs (aSet ls x.2 t)] ++ ((Res.mpT Tryz.prog 3 (fun n : Int => Value.int .i64 n) bn ln2 :: btwP bb H a1 n1 c1 a2 n2 c2 a3 n3 c3 a4 n4 c4 a5 n5 c5 :: .blk b4 (.cells #[.int .i64 r, .slice am nm cm] 32) :: .blk b3 (.cells #[.string H.Name, .slice a1 n1 c1, .slice a2 n2 c2, .slice a3 n3 c3, .slice a4 n4 c4, .slice a5 n5 c5] 28) :: S) ++ []))) w := hw
    rw [List.append_nil] at hw
    have hw : Wd Γ (.own (.slice (some ao) nm nm) 3 1 (intRows (O.set k t)) :: .blk b4 (.cells #[.int .i64 r, .slice am nm cm] 32) :: Res.mpT Tryz.prog 3 (fun n : Int => Value.int .i64 n) bn ln2 :: Res.mpT Tryz.prog 3 (fun n : Int => Value.int .i64 n) bs (aSet ls x.2 t) :: btwP bb H a1 n1 c1 a2 n2 c2 a3 n3 c3 a4 n4 c4 a5 n5 c5 :: .blk b3 (.cells #[.string H.Name, .slice a1 n1 c1, .slice a2 n2 c2, .slice a3 n3 c3, .slice a4 n4 c4, .slice a5 n5 c5] 28) :: S) w := (Wd.drop hw).ps [2, 4, 2]
    have hF' : (O.set k t).take (k + 1) ++ arrF (farI H) cost (updI st x.2 t) (updI sn x.1 (sn x.1 + 1)) (es.drop (k + 1)) = arrF (farI H) cost (fun _ => 0) (fun _ => 0) es := by
      have hdr : es.drop k = x :: es.drop (k + 1) := by
        obtain ⟨q1, q2⟩ := List.getElem?_eq_some_iff.1 hx
        rw [List.drop_eq_getElem_cons q1, q2]
      rw [← hF, hdr, take_succ_of hOk, List.take_set_of_le (Nat.le_refl k), List.append_assoc]
      conv => rhs; unfold arrF
      rw [ht]; rfl
    have hB1 : ∀ z, 0 ≤ updI st x.2 t z ∧ updI st x.2 t z ≤ ((k + 1 : Nat) : Int) * 2000000000 := fun z => by
      have := hst z
      unfold updI; split
      · omega
      · omega
    have hB2 : ∀ z, 0 ≤ updI sn x.1 (sn x.1 + 1) z ∧ updI sn x.1 (sn x.1 + 1) z ≤ ((k + 1 : Nat) : Int) := fun z => by
      have := hsn z
      unfold updI; split
      · omega
      · omega
    repeat (first | refine byW ?_ | (refine byV ?_; intro w hw))
    exact ⟨μ - 1, by omega, k + 1, updI st x.2 t, updI sn x.1 (sn x.1 + 1), O.set k t, aSet ls x.2 t, ln2, by omega, by simp [hO], hls', hln', hB1, hB2, hF', ⟨rfl, rfl, rfl, rfl, rfl, rfl, rfl, rfl, trivial⟩, hw⟩
  · have hkn' : ¬ k < nm := by have := of_decide_eq_false h; omega
    rw [List.drop_eq_nil_of_le (by omega), List.take_of_length_le (by omega)] at hF
    have hF : O = arrF (farI H) cost (fun _ => 0) (fun _ => 0) es := by rw [← hF]; unfold arrF; simp
    repeat (first | refine byW ?_ | (refine byV ?_; intro w hw))
    refine ⟨_, rfl, _, rfl, ?_⟩
    rw [← hF]
    exact hw.ds [1, 1, 1, 1, 1]
end Go.Proofs.YteiijmclobggjaaGreat
end
/- Completion, walked. -/
section
open Go Mk
namespace Go.Proofs.YteiijmclobggjaaGreat

noncomputable def compS (H : HwT) (r : Int) (es : List Pl) (cost : Int) : Int := if (arrS H r es cost).2 = 0 then (arrS H r es cost).1.foldl max 0 else 0
theorem arrS_len {H : HwT} {r cost : Int} {es : List Pl} : (arrS H r es cost).1.length ≤ es.length := by
  unfold arrS
  split
  · split
    · simp
    · rw [arrF_len]; exact Nat.le_refl _
  · simp
instance pg_Completion {Γ : Gho} {u v : Value} {H : HwT} [hh : HwR Γ u H] {es : List Pl} [hr : SlC Γ v 2 (es.map plV)] [hsh : ShortL es] (r cost : Int) : PG Tryz.prog Γ 15 [u, .agg #[.int .i64 r, v], .int .i64 cost] (.tuple #[.int .i64 (compS H r es cost), .int .i64 (arrS H r es cost).2]) := ⟨fun S w hw => by
  obtain ⟨am, nm, cm, rfl, -⟩ := hr.h.shape
  have hl := hsh.h
  exact completion_of (l := (arrS H r es cost).1) (Nat.le_trans arrS_len hl) (fun S w hw => arrivals_any r cost hw) hw⟩
end Go.Proofs.YteiijmclobggjaaGreat
end
/- Arrivals, in plain words; the plan completes no later than after an exchange. -/
section
open Go Mk
namespace Go.Proofs.YteiijmclobggjaaGreat

/-! ### when an edge arrives -/
def stL (l : List (Pl × Int)) (st : Int → Int) : Int → Int := l.foldl (fun f p => updI f p.1.2 p.2) st
theorem arr_at {far : Int → Int → Int} {cost : Int} : ∀ {es : List Pl} {st sn : Int → Int} {m : Nat} {e : Pl}, es[m]? = some e →
    (arrF far cost st sn es)[m]? = some (stL ((es.zip (arrF far cost st sn es)).take m) st e.1 + (sn e.1 + (cntF es m e.1 : Int) + 1) * cost + far e.1 e.2)
  | [], _, _, _, _, h => by simp at h
  | e0 :: es, st, sn, 0, e, h => by
    simp at h
    subst h
    unfold arrF cntF stL
    simp
  | e0 :: es, st, sn, m + 1, e, h => by
    have ih := arr_at (far := far) (cost := cost) (es := es) (st := updI st e0.2 (st e0.1 + (sn e0.1 + 1) * cost + far e0.1 e0.2)) (sn := updI sn e0.1 (sn e0.1 + 1)) (m := m) (e := e) (by simpa using h)
    unfold arrF
    rw [List.getElem?_cons_succ, ih]
    have h2 : updI sn e0.1 (sn e0.1 + 1) e.1 + (cntF es m e.1 : Int) = sn e.1 + (cntF (e0 :: es) (m + 1) e.1 : Int) := by
      unfold updI cntF
      rw [List.take_succ_cons]
      by_cases c : e0.1 = e.1
      · rw [if_pos c, List.countP_cons_of_pos (by simpa using c), c]
        omega
      · rw [if_neg c, List.countP_cons_of_neg (by simpa using c)]
    rw [h2]
    rfl
section
variable {far : Int → Int → Int} {cost : Int}
def arr0 (far : Int → Int → Int) (cost : Int) (es : List Pl) : List Int := arrF far cost (fun _ => 0) (fun _ => 0) es
theorem arr0_len {es : List Pl} : (arr0 far cost es).length = es.length := arrF_len _ _ _ _ _
/-! ### the greatest -/
end

end Go.Proofs.YteiijmclobggjaaGreat
end
/- Numbers drawn from a list. -/
section
open Go Mk
namespace Go.Proofs.YteiijmclobggjaaGreat
set_option maxHeartbeats 8000000
attribute [local irreducible] Calls
section
variable {P : Program} {n : Nat} {ops : List Oper} {Γ : Gho} {K : List Res} {wr tc stab : List (List Nat)} {Q : Fr → World → Prop} {i : Nat} {rest : List Oper} {ρ : Fr} {M : Nat → Fr → List Res}
/-- In a mixed region: a call that changes what lies in the cell c, and whose answer is known. -/
theorem mCallD {c f : Nat} {d : Option Tmp} {ty : TypeId} {pos : String} {es : Array Edge} {args : List Operand} {tys : Array TypeId} {vs : List Value} {v : Value} {X X' : List Res} [FnOk P f]
    (hcall : ∀ S w, Wd Γ (X ++ S) w → Calls P f vs.toArray w fun e w' => e = .returned v ∧ Wd Γ (X' ++ S) w') (h : MSw (mV P n ops Γ K wr tc stab) Q (i + 1) rest ⟨putO ρ d v, setC M c fun _ => X'⟩)
    (ht : tc.getD i [] = [c] := by exact rfl) (hM : M c = (fun _ => X) := by first | exact setC_self | exact rfl) (hw0 : wr.getD i [] = [c] := by exact rfl) (ha : ∀ g, EvL (ovr stab.flatten g ρ) args vs := by intro g; exact byEV) :
    MSw (mV P n ops Γ K wr tc stab) Q i (⟨d, .call { callee := .value (.func f), args := args.toArray, argTypes := tys }, ty, pos, es, none⟩ :: rest) ⟨ρ, M⟩ := by
  refine mM (v := v) _ (fun Y w g hw => ?_) h hw0 rfl
  rw [cells1 ht, hM] at hw
  refine s_call (ha g).eqA ((hcall _ _ hw.swapApp).mono fun e w' ⟨h1, h2⟩ => ⟨v, h1, ?_, fun _ => rfl⟩)
  rw [cells1 ht, setC_self]
  exact h2.swapApp
end

/-- The number that is drawn as number k. -/
def nx (L : List Int) (k : Nat) (n : Int) : Int := ((if L = [] then 0 else (L.getD (k % L.length) 0) % 1073741824) + 7 * ((k / max L.length 1 : Nat) : Int)) % n
theorem nx_range {L : List Int} {k : Nat} {n : Int} (h : 0 < n) : 0 ≤ nx L k n ∧ nx L k n < n := ⟨Int.emod_nonneg _ (by omega), Int.emod_lt_of_pos _ h⟩
instance : PosL 1073741824 := ⟨by decide⟩
def drwB (bs : Nat) (a : Option Addr) (m c k : Nat) : Res := .blk bs (.cells #[.slice a m c, .int .i64 k] 97)
theorem Next_any {Γ : Gho} {S : List Res} {w : World} {bs : Nat} {a : Option Addr} {m c k : Nat} {L : List Int} {n : Int} (hn0 : 0 < n) (hk : k ≤ 1000000) (hr : RepS Γ (.slice a m c) 1 (intRows L)) (hw : Wd Γ (drwB bs a m c k :: S) w) :
    Calls Tryz.prog 42 #[.pointer (some ⟨bs, 0, none⟩), .int .i64 n] w fun e w' => e = .returned (.int .i64 (nx L k n)) ∧ Wd Γ (drwB bs a m c (k + 1) :: S) w' := by
  obtain ⟨hn, hnc, hc⟩ := rep_facts hr
  simp only [intRows, List.length_map] at hn
  unfold drwB at hw
  refine calls_of_W Tryz.func42 rfl rfl ?_
  iterate 8 (first | refine byW ?_ | (refine byV ?_; intro w hw))
  obtain ⟨v0, hv0⟩ : ∃ v0 : Int, v0 = (if L = [] then 0 else (L.getD (k % L.length) 0) % 1073741824) := ⟨_, rfl⟩
  have hvb : 0 ≤ v0 ∧ v0 < 1073741824 := by
    rw [hv0]; split
    · omega
    · exact ⟨Int.emod_nonneg _ (by omega), Int.emod_lt_of_pos _ (by omega)⟩
  refine W_cut (fun ρ w => Has ρ [(0, .pointer (some ⟨bs, 0, none⟩)), (1, .int .i64 n), (5, .int .i64 v0)] ∧ Wd Γ (.blk bs (.cells #[.slice a m c, .int .i64 k] 97) :: S) w) ?_ ?_
  · repeat (first | refine byW ?_ | (refine byV ?_; intro w hw))
    refine W_cond rfl (fun h => ?_) (fun h => ?_)
    · have hm : 0 < m := by simp at h; omega
      have hkm : (k : Int).tmod m = ((k % m : Nat) : Int) := by rw [Int.tmod_eq_emod_of_nonneg (by omega)]; exact (Int.natCast_emod k m).symm
      have hlt : k % m < m := Nat.mod_lt _ hm
      obtain ⟨x, hx⟩ := get_lt (l := L) (k := k % m) (by omega)
      have hx' : L[((k % m : Nat) : Int).toNat]? = some x := hx
      have hvx : v0 = x % 1073741824 := by
        rw [hv0, if_neg (fun e => by rw [e] at hn; simp at hn; omega), ← hn, List.getD_eq_getElem?_getD, hx]; rfl
      repeat (first | refine byW ?_ | (refine byV ?_; intro w hw))
      refine W_quiet (by kernel_rfl) (by kernel_rfl) hw ?_
      iterate 13 (first | refine Q_nil ?_ | (apply Q_plain; first | (apply Q_go; first | refine qP ?_ | refine qPg ?_) | refine qY ?_) | (apply Q_guarded; first | (apply Q_go; first | refine qPG ?_ | refine qPgG ?_) | refine qG ?_))
      refine qY (v := .int .i64 ((k % m : Nat) : Int)) ?_ (hy := fun w hw => by
        rw [← hkm]; exact y_rem rfl rfl (by omega))
      repeat (first | refine Q_nil ?_ | (apply Q_plain; first | (apply Q_go; first | refine qP ?_ | refine qPg ?_) | refine qY ?_) | (apply Q_guarded; first | (apply Q_go; first | refine qPG ?_ | refine qPgG ?_) | refine qG ?_))
      clear hw
      intro w hw
      repeat (first | refine byW ?_ | (refine byV ?_; intro w hw))
      exact ⟨⟨rfl, rfl, by rw [hvx]; rfl, trivial⟩, hw⟩
    · have hm : m = 0 := by simp at h; omega
      have hL : L = [] := List.eq_nil_of_length_eq_zero (by omega)
      repeat (first | refine byW ?_ | (refine byV ?_; intro w hw))
      exact ⟨⟨rfl, rfl, by rw [hv0, if_pos hL]; rfl, trivial⟩, hw⟩
  · rintro ρ w ⟨hρ, hw⟩
    rw [hρ.eq]
    clear hρ
    have hlen : max L.length 1 = max m 1 := by rw [hn]
    have hnx : nx L k n = (v0 + 7 * ((k / max m 1 : Nat) : Int)) % n := by unfold nx; rw [← hv0, hlen]
    rw [hnx]
    clear hnx hlen
    have hM : (if (m : Int) < 1 then 1 else (m : Int)) = ((max m 1 : Nat) : Int) := by
      split <;> omega
    have hMp : 0 < max m 1 := by omega
    have hq1 : (k : Int).tdiv ((max m 1 : Nat) : Int) = ((k / max m 1 : Nat) : Int) := by rw [Int.tdiv_eq_ediv_of_nonneg (by omega)]; rfl
    have hqk : k / max m 1 ≤ k := Nat.div_le_self _ _
    generalize k / max m 1 = q at *
    generalize max m 1 = M at *
    have hw1 : IntKind.i64.wrap ((q : Nat) : Int) = ((q : Nat) : Int) := wrap_i64 (by omega) (by omega)
    refine W_seq ?_
    refine W_quiet (by kernel_rfl) (by kernel_rfl) hw ?_
    iterate 10 (first | refine Q_nil ?_ | (apply Q_plain; first | (apply Q_go; first | refine qP ?_ | refine qPg ?_) | refine qY ?_) | (apply Q_guarded; first | (apply Q_go; first | refine qPG ?_ | refine qPgG ?_) | refine qG ?_))
    refine qY (v := .int .i64 ((M : Nat) : Int)) ?_ (hy := fun w hw => by rw [← hM]; exact y_max2 rfl rfl)
    refine qY (v := .int .i64 ((q : Nat) : Int)) ?_ (hy := fun w hw => by
      rw [← hw1, ← hq1]; exact y_quo rfl rfl (by omega))
    repeat (first | refine Q_nil ?_ | (apply Q_plain; first | (apply Q_go; first | refine qP ?_ | refine qPg ?_) | refine qY ?_) | (apply Q_guarded; first | (apply Q_go; first | refine qPG ?_ | refine qPgG ?_) | refine qG ?_))
    clear hw
    intro w hw
    repeat (first | refine byW ?_ | (refine byV ?_; intro w hw))
    refine lStore ?_
    intro w hw
    have hw : Wd Γ (drwB bs a m c (k + 1) :: S) w := hw
    repeat (first | refine byW ?_ | (refine byV ?_; intro w hw))
    refine ⟨_, rfl, ret_i rfl ?_, hw⟩
    rw [Int.tmod_eq_emod_of_nonneg (by omega)]
end Go.Proofs.YteiijmclobggjaaGreat
end
/- Lists of IDs, and sorting by exchanges of neighbours. -/
section
open Go Mk
namespace Go.Proofs.YteiijmclobggjaaGreat
set_option maxHeartbeats 8000000
attribute [local irreducible] Calls
/-- An element sinks to its place by exchanges with its left neighbour. -/
def bub {α : Type} (lt : α → α → Bool) : Nat → List α → List α
  | 0, l => l
  | k + 1, l => match l[k + 1]?, l[k]? with
    | some x, some y => if lt x y = true then bub lt k ((l.set (k + 1) y).set k x) else l
    | _, _ => l
def bsFrom {α : Type} (lt : α → α → Bool) : Nat → Nat → List α → List α
  | 0, _, l => l
  | f + 1, i, l => bsFrom lt f (i + 1) (bub lt i l)
def bsort {α : Type} (lt : α → α → Bool) (l : List α) : List α := bsFrom lt (l.length - 1) 1 l
theorem bub_step {α : Type} {lt : α → α → Bool} {k : Nat} {l : List α} {x y : α} (hx : l[k + 1]? = some x) (hy : l[k]? = some y) (h : lt x y = true) : bub lt (k + 1) l = bub lt k ((l.set (k + 1) y).set k x) := by
  unfold bub; rw [hx, hy]; simp only [if_pos h]; cases k <;> rfl
theorem bub_stop {α : Type} {lt : α → α → Bool} {k : Nat} {l : List α} {x y : α} (hx : l[k + 1]? = some x) (hy : l[k]? = some y) (h : ¬ lt x y = true) : bub lt (k + 1) l = l := by
  unfold bub; rw [hx, hy]; simp only [if_neg h]
theorem bub_len {α : Type} {lt : α → α → Bool} : ∀ (k : Nat) (l : List α), (bub lt k l).length = l.length
  | 0, l => rfl
  | k + 1, l => by
    unfold bub
    split
    · split
      · rw [bub_len k]; simp
      · rfl
    · rfl
theorem bsFrom_len {α : Type} {lt : α → α → Bool} : ∀ (f i : Nat) (l : List α), (bsFrom lt f i l).length = l.length
  | 0, _, _ => rfl
  | f + 1, i, l => by show (bsFrom lt f (i + 1) (bub lt i l)).length = _; rw [bsFrom_len f, bub_len]
theorem bsort_len {α : Type} {lt : α → α → Bool} (l : List α) : (bsort lt l).length = l.length := bsFrom_len _ _ _
def ltI (a b : Int) : Bool := decide (a < b)
theorem ints_one (xs : List Int) : (intRows xs).flatten.all (·.oneCell') = true := by
  unfold intRows
  induction xs with
  | nil => rfl
  | cons x l ih => simp only [List.map_cons, List.flatten_cons, List.all_append, ih]; rfl
theorem set_rows {xs : List Int} {k : Nat} {x : Int} : (intRows xs).set k [.int .i64 x] = intRows (xs.set k x) := by unfold intRows; rw [List.map_set]
theorem SortInts_any {Γ : Gho} {S : List Res} {w : World} {v : Value} {xs : List Int} (hr : RdS Γ S v 1 (intRows xs)) (hl : xs.length ≤ 1000000) (hw : Wd Γ S w) :
    Calls Tryz.prog 43 #[v] w fun e w' => ∃ v', e = .returned v' ∧ Wd Γ (.own v' 3 1 (intRows (bsort ltI xs)) :: S) w' := by
  obtain ⟨a, n, c, rfl, hn, hnc, hc⟩ := hr.shape
  simp only [intRows, List.length_map] at hn
  refine calls_of_W Tryz.func43 rfl rfl ?_
  repeat (first | refine byW ?_ | (refine byV ?_; intro w hw))
  have hw : Wd Γ (.own (.slice none 0 0) 3 1 [] :: S) w := Wd.addNil hw
  refine lApp (i := 0) (rows2 := intRows xs) ?_ (hr.cons.rd hw) (h1 := ints_one xs) (hm := by simp [intRows]; exact hn)
  intro v' w hw
  obtain ⟨q, m, d, rfl, hm, -, -⟩ := hw.own_shape (i := 0) rfl
  simp [intRows] at hm
  have hw : Wd Γ (.own (.slice q m d) 3 1 (intRows xs) :: S) w := hw
  repeat (first | refine byW ?_ | (refine byV ?_; intro w hw))
  refine W_loop (fun μ ρ w => ∃ (i : Nat) (Y : List Int), 1 ≤ i ∧ (m ≤ i + μ) ∧ Y.length = m ∧ bsort ltI xs = bsFrom ltI (m - i) i Y ∧ Has ρ [(3, .slice q m d), (4, .int .i64 i)] ∧ Wd Γ (.own (.slice q m d) 3 1 (intRows Y) :: S) w) m ⟨1, xs, by omega, by omega, hm.symm, by unfold bsort; rw [← hm], ⟨rfl, rfl, trivial⟩, hw⟩ ?_
  clear hw
  rintro μ ρ w ⟨i, Y, hi, hμ, hY, hB, hρ, hw⟩
  rw [hρ.eq]
  repeat (first | refine byW ?_ | (refine byV ?_; intro w hw))
  refine W_cond rfl (fun h => ?_) (fun h => ?_)
  · have him : i < m := by simpa using h
    have hB2 : bsort ltI xs = bsFrom ltI (m - (i + 1)) (i + 1) (bub ltI i Y) := by
      rw [hB, show m - i = (m - (i + 1)) + 1 by omega]; rfl
    repeat (first | refine byW ?_ | (refine byV ?_; intro w hw))
    refine W_loop (fun μ2 ρ w => ∃ (k : Nat) (Z : List Int), μ2 = k ∧ k ≤ i ∧ Z.length = m ∧ bub ltI i Y = bub ltI k Z ∧ Has ρ [(3, .slice q m d), (4, .int .i64 i), (5, .int .i64 k)] ∧ Wd Γ (.own (.slice q m d) 3 1 (intRows Z) :: S) w) i ⟨i, Y, rfl, Nat.le_refl _, hY, rfl, ⟨rfl, rfl, rfl, trivial⟩, hw⟩ ?_
    clear hw
    rintro μ2 ρ w ⟨k, Z, rfl, hk, hZ, hC, hρ, hw⟩
    rw [hρ.eq]
    refine W_seq ?_
    refine W_seq ?_
    have hnr : m = (intRows Z).length := by simp [intRows]; omega
    cases μ2 with
    | zero =>
      refine W_quiet (by kernel_rfl) (by kernel_rfl) hw ?_
      iterate 3 (first | refine Q_nil ?_ | (apply Q_plain; first | (apply Q_go; first | refine qP ?_ | refine qPg ?_) | refine qY ?_) | (apply Q_guarded; first | (apply Q_go; first | refine qPG ?_ | refine qPgG ?_) | refine qG ?_))
      iterate 10 (refine qGF ?_ rfl)
      refine qY (v := .bool false) ?_ (hy := fun w hw => y_pickF rfl rfl)
      refine Q_nil ?_
      clear hw
      intro w hw
      refine W_cond rfl (fun h => by cases h) (fun _ => ?_)
      repeat (first | refine byW ?_ | (refine byV ?_; intro w hw))
      exact ⟨μ - 1, by omega, i + 1, Z, by omega, by omega, hZ, by rw [hB2, hC]; rfl, ⟨rfl, rfl, trivial⟩, hw⟩
    | succ k =>
      obtain ⟨x, hx⟩ := get_lt (l := Z) (k := k + 1) (by omega)
      obtain ⟨y, hy⟩ := get_lt (l := Z) (k := k) (by omega)
      have e1 : (((k + 1 : Nat) : Int) - 1) = (k : Int) := by omega
      have hx' : Z[((k + 1 : Nat) : Int).toNat]? = some x := hx
      have hy' : Z[(((k + 1 : Nat) : Int) - 1).toNat]? = some y := by rw [e1]; exact hy
      refine W_quiet (by kernel_rfl) (by kernel_rfl) hw ?_
      iterate 1 (first | refine Q_nil ?_ | (apply Q_plain; first | (apply Q_go; first | refine qP ?_ | refine qPg ?_) | refine qY ?_) | (apply Q_guarded; first | (apply Q_go; first | refine qPG ?_ | refine qPgG ?_) | refine qG ?_))
      refine qT (b := decide ((0 : Int) < ((k + 1 : Nat) : Int))) (decide_eq_true (by omega)) ?_
      repeat (first | refine Q_nil ?_ | (apply Q_plain; first | (apply Q_go; first | refine qP ?_ | refine qPg ?_) | refine qY ?_) | (apply Q_guarded; first | (apply Q_go; first | refine qPG ?_ | refine qPgG ?_) | refine qG ?_))
      clear hw
      intro w hw
      refine W_cond rfl (fun h2 => ?_) (fun h2 => ?_)
      · have h2 : ltI x y = true := by simpa [ltI] using h2
        rw [bub_step hx hy h2] at hC
        repeat (first | refine byW ?_ | (refine byV ?_; intro w hw))
        refine lStoreE (k := k + 1) (i := 0) ?_
        intro w hw
        have hw : Wd Γ (.own (.slice q m d) 3 1 ((intRows Z).set (k + 1) [.int .i64 y]) :: S) w := hw
        rw [set_rows] at hw
        have hnr : m = (intRows (Z.set (k + 1) y)).length := by simp [intRows]; omega
        repeat (first | refine byW ?_ | (refine byV ?_; intro w hw))
        refine lStoreE (k := k) (i := 0) ?_ (hx := by show Value.pointer _ = _; rw [show (((k + 1 : Nat) : Int) - 1).toNat = k by omega])
        intro w hw
        have hw : Wd Γ (.own (.slice q m d) 3 1 ((intRows (Z.set (k + 1) y)).set k [.int .i64 x]) :: S) w := hw
        rw [set_rows] at hw
        repeat (first | refine byW ?_ | (refine byV ?_; intro w hw))
        exact ⟨k, by omega, k, _, rfl, by omega, by simp; omega, hC, ⟨rfl, rfl, by show Value.int .i64 (((k + 1 : Nat) : Int) - 1) = _; rw [e1], trivial⟩, hw⟩
      · have h2 : ¬ ltI x y = true := by have : ltI x y = false := by simpa [ltI] using h2
                                         rw [this]; simp
        rw [bub_stop hx hy h2] at hC
        repeat (first | refine byW ?_ | (refine byV ?_; intro w hw))
        exact ⟨μ - 1, by omega, i + 1, Z, by omega, by omega, hZ, by rw [hB2, hC], ⟨rfl, rfl, trivial⟩, hw⟩
  · have him : ¬ i < m := by simpa using h
    repeat (first | refine byW ?_ | (refine byV ?_; intro w hw))
    refine ⟨_, rfl, _, rfl, ?_⟩
    rw [hB, show m - i = 0 by omega]; exact hw
theorem IDs_any {Γ : Gho} {S : List Res} {w : World} {xs : List CoreT} {nm : ByteArray} {v1 v2 v3 v4 v5 : Value} (hr : RdS Γ S v1 4 (xs.map enc)) (hl : xs.length ≤ 1000000) (hw : Wd Γ S w) :
    Calls Tryz.prog 44 #[.agg #[.string nm, v1, v2, v3, v4, v5]] w fun e w' => ∃ v', e = .returned v' ∧ Wd Γ (.own v' 3 1 (intRows (xs.map (·.ID))) :: S) w' := by
  obtain ⟨a, n, c, rfl, hn, hnc, hc⟩ := hr.shape
  have hnr := hn
  simp only [List.length_map] at hn
  refine calls_of_W Tryz.func44 rfl rfl ?_
  repeat (first | refine byW ?_ | (refine byV ?_; intro w hw))
  refine lBox ?_
  intro b1 w hw
  have hw : Wd Γ (.blk b1 (.cells #[.string nm, .slice a n c, v2, v3, v4, v5] 28) :: S) w := hw
  have hw : Wd Γ (.own (.slice none 0 0) 3 1 (intRows ((xs.take 0).map (·.ID))) :: .blk b1 (.cells #[.string nm, .slice a n c, v2, v3, v4, v5] 28) :: S) w := Wd.addNil hw
  repeat (first | refine byW ?_ | (refine byV ?_; intro w hw))
  refine W_loop (fun μ ρ w => ∃ (k : Nat) (q : Option Addr) (m d : Nat), μ + k = n ∧ Has ρ [(1, .pointer (some ⟨b1, 0, none⟩)), (3, .slice q m d), (4, .int .i64 k)] ∧ Wd Γ (.own (.slice q m d) 3 1 (intRows ((xs.take k).map (·.ID))) :: .blk b1 (.cells #[.string nm, .slice a n c, v2, v3, v4, v5] 28) :: S) w) n ⟨0, none, 0, 0, by omega, ⟨rfl, rfl, rfl, trivial⟩, hw⟩ ?_
  clear hw
  rintro μ ρ w ⟨k, q, m, d, hk, hρ, hw⟩
  have hm := own_len (i := 0) hw rfl
  simp only [intRows, List.length_map, List.length_take] at hm
  have hr1 : RdS Γ (.own (.slice q m d) 3 1 (intRows ((xs.take k).map (·.ID))) :: .blk b1 (.cells #[.string nm, .slice a n c, v2, v3, v4, v5] 28) :: S) (.slice a n c) 4 (xs.map enc) := hr.cons.cons
  rw [hρ.eq]
  repeat (first | refine byW ?_ | (refine byV ?_; intro w hw))
  refine W_cond rfl (fun h => ?_) (fun h => ?_)
  · have hkn : k < n := by simpa using h
    obtain ⟨x, hx⟩ := get_lt (l := xs) (k := k) (by omega)
    repeat (first | refine byW ?_ | (refine byV ?_; intro w hw))
    refine lBuildSlice [[.int .i64 x.ID]] ?_
    intro ab w hw
    refine lApp (i := 1) (rows2 := [[.int .i64 x.ID]]) ?_ (Wd.own_rd (i := 0) hw rfl)
    intro v' w hw
    obtain ⟨q', m', d', rfl, -, -, -⟩ := hw.own_shape (i := 1) rfl
    have hw : Wd Γ (.own (.slice q' m' d') 3 1 (intRows ((xs.take (k + 1)).map (·.ID))) :: .blk b1 (.cells #[.string nm, .slice a n c, v2, v3, v4, v5] 28) :: S) w := by
      rw [← rows_snocI (f := fun c : CoreT => c.ID) hx]; exact hw.drop
    repeat (first | refine byW ?_ | (refine byV ?_; intro w hw))
    exact ⟨μ - 1, by omega, k + 1, _, _, _, by omega, ⟨rfl, rfl, rfl, trivial⟩, hw⟩
  · have hkn : ¬ k < n := by simpa using h
    rw [List.take_of_length_le (by omega)] at hw
    repeat (first | refine byW ?_ | (refine byV ?_; intro w hw))
    exact ⟨_, rfl, _, rfl, hw.dropAt 1⟩
end Go.Proofs.YteiijmclobggjaaGreat
end
