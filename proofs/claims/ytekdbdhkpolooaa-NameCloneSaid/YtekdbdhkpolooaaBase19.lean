/- The library's sort, carried into this world of words. -/
import Derived.Test.YtekdbdhkpolooaaBase18
import Derived.Shelf.SlSortCmp.NoneTotal
open Go
namespace Mk

/-- All of memory stands for ever. -/
def allG (w : World) : Gho := ⟨fun b => w.heap[b]?, w.os, w.tape, w.output, w.drawn⟩
theorem allG_wd (w : World) : Wd (allG w) [] w := ⟨rfl, rfl, rfl, Nat.le_refl _, fun b o h => h, [], trivial, by simp, by simp⟩
theorem allG_grow {w w' : World} {S : List Res} (h : Wd (allG w) S w') : ∃ q os', w' = Go.Sort.grow (w.drewN q) os' := by
  have hsz : w.heap.size ≤ w'.heap.size := by
    by_cases h0 : w.heap.size = 0
    · omega
    · have hl : w.heap.size - 1 < w.heap.size := by omega
      have := h.imm (w.heap.size - 1) w.heap[w.heap.size - 1] (by show w.heap[_]? = _; simp)
      have := (Array.getElem?_eq_some_iff.1 this).1
      omega
  refine ⟨w'.drawn - w.drawn, w'.heap.extract w.heap.size w'.heap.size, ?_⟩
  have hh : w'.heap = w.heap ++ w'.heap.extract w.heap.size w'.heap.size := by
    refine Array.ext_getElem? fun i => ?_
    rw [Array.getElem?_append]
    split
    · rename_i hi
      rw [h.imm i w.heap[i] (by show w.heap[i]? = _; simp [hi]), Array.getElem?_eq_getElem hi]
    · rename_i hi
      simp only [Array.getElem?_extract]
      split
      · congr 1; omega
      · rw [Array.getElem?_eq_none (by omega)]
  have hd : w.drawn ≤ w'.drawn := h.dr
  cases w' with
  | mk hp tp dr os out =>
    simp only at hh hd
    have e1 : os = w.os := h.os
    have e2 : tp = w.tape := h.tape
    have e3 : out = w.output := h.out
    subst e1 e2 e3
    unfold Go.Sort.grow World.drewN
    simp only [World.mk.injEq]
    exact ⟨hh, trivial, by omega, trivial, trivial⟩

section
variable {P : Program} {Γ : Gho} {S : List Res} {w : World} {α : Type} [Inhabited α] {E k n c g i : Nat} {enc : α → List Value}
attribute [local semireducible] Res.own

theorem own_block {v : Value} {sz e : Nat} {rows : List (List Value)} (hw : Wd Γ S w) (hi : S[i]? = some (.own v e sz rows)) : ∃ a n c, v = .slice a n c ∧ n = rows.length ∧ n ≤ c ∧ c ≤ maxLen ∧ (c = 0 ∨ ∃ g cur, a = some ⟨g, 0, none⟩ ∧ g < w.heap.size ∧ w.heap[g]? = some (.cells cur e (0, 0)) ∧ cur.size = c * sz ∧ cur.toList.take (n * sz) = rows.flatten) := by
  obtain ⟨bs, _, a, n, c, h1, h2, h3, h4, h5⟩ := hw.own_holds hi
  refine ⟨a, n, c, h1, h2, h3, h4, h5.imp (fun h => h.1) ?_⟩
  rintro ⟨g, cur, g1, g2, g3, g4, g5⟩
  exact ⟨g, cur, g1, (Array.getElem?_eq_some_iff.1 g3).1, g3, g4, g5⟩

theorem flatK_toList (hk : ∀ x, (enc x).length = k) (xs : List α) : (Go.Sort.flatK enc k xs.toArray).toList = (xs.map enc).flatten := by
  have hl : ∀ r ∈ xs.map enc, r.length = k := fun r hr => by obtain ⟨x, _, rfl⟩ := List.mem_map.1 hr; exact hk x
  have h2 : (xs.map enc).flatten.length = xs.length * k := by rw [flatten_len hl, List.length_map]
  refine List.ext_getElem? fun t => ?_
  by_cases ht : t < xs.length * k
  · have hk0 : 0 < k := by
      rcases Nat.eq_zero_or_pos k with h0 | h0
      · subst h0; simp at ht
      · exact h0
    have h3 : t / k < xs.length := Nat.div_lt_of_lt_mul (by rw [Nat.mul_comm]; exact ht)
    have h4 : t % k < k := Nat.mod_lt _ hk0
    have h5 : (enc xs[t / k]).length = k := hk _
    have h6 := flatten_get (rows := xs.map enc) (i := t / k) (r := enc xs[t / k]) hl (by simp [h3]) (t % k) ((enc xs[t / k])[t % k]'(by omega)) (by simp [h5, h4])
    have h7 : t / k * k + t % k = t := by rw [Nat.mul_comm]; exact Nat.div_add_mod t k
    rw [h7] at h6
    rw [h6]
    have hs : t < (Go.Sort.flatK enc k xs.toArray).size := by simpa using ht
    rw [Array.getElem?_toList, Array.getElem?_eq_getElem hs, ← getElem!_pos (Go.Sort.flatK enc k xs.toArray) t hs, Go.Sort.get_flatK _ _ _ _ (by simpa using ht)]
    simp [h3, h5, h4]
  · rw [List.getElem?_eq_none (by simp; omega), List.getElem?_eq_none (by omega)]

theorem own_holdsK {xs : List α} (hk : ∀ x, (enc x).length = k) (hw : Wd Γ S w) (hi : S[i]? = some (.own (.slice (some ⟨g, 0, none⟩) n c) E k (xs.map enc))) (hc : 0 < c) : Go.Sort.HoldsK enc k w g 0 xs.toArray ∧ g < w.heap.size := by
  obtain ⟨a, n', c', e1, e2, e3, e4, e5⟩ := own_block hw hi
  cases e1
  rcases e5 with e5 | ⟨g', cur, g1, g2, g3, g4, g5⟩
  · omega
  cases g1
  refine ⟨fun j hj => ?_, g2⟩
  have hj' : j < xs.length * k := by simpa using hj
  rw [← flatK_toList hk] at g5
  have hn : n = xs.length := by simpa using e2
  subst hn
  have h1 : (cur.toList.take (xs.length * k))[j]? = cur[j]? := by rw [List.getElem?_take_of_lt hj', Array.getElem?_toList]
  rw [g5, Array.getElem?_toList, Array.getElem?_eq_getElem hj] at h1
  constructor
  · simp only [World.cell?, g3, Nat.zero_add, id]
    simp only [Option.isSome_none, Bool.false_eq_true, if_false]
    rw [← h1, getElem!_pos _ j hj]
  · simp [World.frozen?, g3]

theorem own_sortWorld {xs : List α} (hk : ∀ x, (enc x).length = k) (hw : Wd Γ S w) (hi : S[i]? = some (.own (.slice (some ⟨g, 0, none⟩) n c) E k (xs.map enc))) (hc : 0 < c) (dk : Array α) (hs : dk.size = xs.length) (m : Nat) (os : Array Obj) :
    Wd Γ (S.set i (.own (.slice (some ⟨g, 0, none⟩) n c) E k (dk.toList.map enc))) (Go.Proofs.sortWorldK enc k w g 0 m dk os) := by
  have hsz : (Go.Proofs.sortWorldK enc k w g 0 m dk os).heap.size = w.heap.size + os.size := by
    simp [Go.Proofs.sortWorldK, Go.Sort.grow, Go.Sort.putRowK, Go.Sort.putRow, Go.Sort.mapBlock, Go.Sort.ahead]
  refine hw.upd hi ⟨rfl, rfl, rfl, Nat.le_add_right _ _, by omega⟩ fun bs hr hnd hlt => ?_
  unfold Res.own at hr ⊢
  obtain ⟨h0, a', n', c', e1, e2, e3, e4, e5⟩ := hr
  cases e1
  rcases e5 with ⟨e5, _⟩ | ⟨g', cur, g1, rfl, g3, g4, g5⟩
  · omega
  cases g1
  have hn : n = xs.length := by simpa using e2
  subst hn
  have hglt : g < w.heap.size := hlt g (by simp)
  have hkk : ∀ b, b < w.heap.size → (Go.Proofs.sortWorldK enc k w g 0 m dk os).heap[b]? = (w.heap.modify g (Go.Sort.onCells (Go.Sort.putCells id 0 (Go.Sort.flatK enc k dk))))[b]? := fun b hb => by
    show ((w.heap.modify g _) ++ os)[b]? = _
    rw [Array.getElem?_append_left (by simpa using hb)]
  refine ⟨[g], ⟨fun r hr => ?_, _, _, _, rfl, by simp [hs], e3, e4, .inr ⟨g, Go.Sort.putCells id 0 (Go.Sort.flatK enc k dk) cur, rfl, rfl, ?_, ?_, ?_⟩⟩, by simp, fun b hb => ⟨by have := hlt b hb; omega, .inl hb⟩, fun b hb hne => ?_⟩
  · obtain ⟨x, _, rfl⟩ := List.mem_map.1 hr; exact hk x
  · show (Go.Proofs.sortWorldK enc k w g 0 m dk os).heap[g]? = _
    rw [hkk g hglt, Array.getElem?_modify, if_pos rfl]
    simp only [hp] at g3
    rw [g3]; rfl
  · rw [← g4]; simp [Go.Sort.putCells]
  · rw [show dk.toList.map enc = ((dk.toList).map enc) from rfl, ← flatK_toList hk]
    refine List.ext_getElem? fun j => ?_
    have hfs : (Go.Sort.flatK enc k dk.toList.toArray).size = xs.length * k := by simp [hs]
    by_cases hj : j < xs.length * k
    · have hjc : j < cur.size := by
        rw [g4]; exact Nat.lt_of_lt_of_le hj (Nat.mul_le_mul_right _ e3)
      rw [List.getElem?_take_of_lt hj, Array.getElem?_toList, Array.getElem?_toList, Array.getElem?_eq_getElem (by simpa [Go.Sort.putCells] using hjc), Array.getElem?_eq_getElem (by rw [hfs]; exact hj)]
      simp only [Go.Sort.putCells, Array.getElem_mapIdx, Nat.zero_le, Nat.sub_zero, Nat.zero_add, true_and, id]
      rw [if_pos (by simpa [hs] using hj), getElem!_pos _ j (by simpa [hs] using hj)]
    · rw [List.getElem?_eq_none (by simp; omega), List.getElem?_eq_none (by simp [hs]; omega)]
  · rw [hkk b hb, Array.getElem?_modify, if_neg (fun e => hne (by simp [e]))]

theorem permIn_list {d d' : Array α} (h : Go.Sort.PermIn 0 d.size d d') : d'.toList.Perm d.toList := by
  obtain ⟨h1, _, h2⟩ := h
  have e : ∀ x : Array α, x.size = d.size → x.extract 0 d.size = x := fun x hx => by rw [← hx]; simp
  rwa [e d' h1, e d rfl] at h2
theorem sortedIn_list {lt : α → α → Bool} {d : Array α} {m : Nat} (hm : m = d.size) (h : Go.Sort.SortedIn lt 0 m d) : d.toList.Pairwise fun a b => lt b a = false := by
  subst hm
  rw [List.pairwise_iff_getElem]
  intro i j hi hj hij
  have := h i j (Nat.zero_le _) hij (by simpa using hj)
  simp only [Array.length_toList] at hi hj
  simpa [hi, hj] using this

/-- **slices.SortFunc at structs.** What 'cmp' needs of memory is said at Γ, whatever the slice holds meanwhile. -/
theorem SortFunc_K {ρ : Go.Shelf.Ren} (L : Go.Proofs.SlLaysF0.n6 P ρ) (cf : α → α → Int) (f : Nat) (cap : List Value) [FnOk P f] (xs : List α) (v : Value) (hw : Wd Γ S w) (hi : S[i]? = some (.own v E k (xs.map enc)))
    (hk : ∀ x, (enc x).length = k) (h1 : ∀ x, ∀ u ∈ enc x, u.oneCell' = true) (hA : TA P (ρ.t 24) k) (hO : Go.Sort.SWO (Go.Proofs.ltOf cf)) (hlen : xs.length < 4611686018427387904)
    (hcmp : ∀ (dk : List α) w', Wd Γ (S.set i (.own v E k (dk.map enc))) w' → ∀ x y, Calls P f (#[.agg (enc x).toArray, .agg (enc y).toArray] ++ cap.toArray) w' fun e w'' => e = .returned (.int .i64 (cf x y)) ∧ ∃ S'', Wd (allG w') S'' w'') :
    Calls P (ρ.f 6) #[v, .func (.func f) #[] cap.toArray] w fun e w' => e = .returned (.tuple #[]) ∧ ∃ ys : List α, ys.Perm xs ∧ (ys.Pairwise fun a b => Go.Proofs.ltOf cf b a = false) ∧ Wd Γ (S.set i (.own v E k (ys.map enc))) w' := by
  obtain ⟨a, n, c, rfl, e2, e3, e4, e5⟩ := own_block hw hi
  have hn : n = xs.length := by simpa using e2
  by_cases h0 : n = 0
  · have hx : xs = [] := List.eq_nil_of_length_eq_zero (by omega)
    subst h0
    refine (Go.Proofs.AnyF.slices_SortFunc_none (P := P) (ρ := ρ) L a c _ w).mono ?_
    rintro e w' ⟨he, rfl⟩
    refine ⟨he, [], by rw [hx], List.Pairwise.nil, ?_⟩
    rw [hx] at hi
    have hset : S.set i (.own (.slice a 0 c) E k (([] : List α).map enc)) = S := by
      obtain ⟨hil, hie⟩ := List.getElem?_eq_some_iff.1 hi
      rw [← hie]; exact List.set_getElem_self hil
    rw [hset]; exact hw
  · have hc : 0 < c := by omega
    rcases e5 with e5 | ⟨g, cur, rfl, hg, hcur, hcs, htk⟩
    · omega
    obtain ⟨hH, hgl⟩ := own_holdsK hk hw hi hc
    have haggz : (∀ w, (isAgg (ρ.t 24)).run P w = .ok true w) ∧ ∀ w, (Go.sizeOf (ρ.t 24)).run P w = .ok k w := by
      have h := hA.h
      unfold aggSz at h
      cases hu : P.underlying (ρ.t 24) with
      | none => simp [hu] at h
      | some t =>
        simp [hu] at h
        cases hq : P.info? (ρ.t 24) with
        | none => simp [hq] at h
        | some q =>
          simp [hq] at h
          refine ⟨fun w => ?_, fun w => by simp [Go.sizeOf, typeInfo, hq, h.2]⟩
          unfold isAgg
          rw [Sem.run_bind, run_underlying hu w]
          cases t <;> simp_all [TypeDesc.isRow]
    have := Go.Proofs.AnyQ.slices_SortFunc L k haggz.1 haggz.2 enc hk h1 cf hO f cap.toArray g 0 c xs.toArray w (fun args w => run_callFunc args) (fun m os dk hdk x y => ?_) hH hgl (by simpa using hlen)
    · simp only [List.size_toArray] at this
      rw [← hn] at this
      refine this.mono ?_
      rintro e w' ⟨he, d', n', os, hp, hs, rfl⟩
      have hd : d'.size = xs.length := by have := hp.1; simpa using this
      refine ⟨he, d'.toList, by simpa using permIn_list (d := xs.toArray) (by simpa [← hn] using hp), sortedIn_list (m := n) (by omega) hs, own_sortWorld hk hw hi hc d' hd n' os⟩
    · have hw1 := own_sortWorld hk hw hi hc dk (by simpa using hdk) m os
      refine (hcmp dk.toList _ hw1 x y).mono ?_
      rintro e w'' ⟨he, S'', hw2⟩
      exact ⟨he, allG_grow hw2⟩
end
end Mk
