/- What is known of memory: 'Wd Γ S w': the ghost Γ says what stands for ever, the list S what is owned, one resource a place. -/
import Derived.Test.YtekdbdhkpolooaaBase2
import Derived.Deep.MidRow
import Derived.Maps.AppendAt
import Derived.Below
open Go
namespace Mk

abbrev Hp := Nat → Option Obj
abbrev hp (w : World) : Hp := fun b => w.heap[b]?

structure Gho where
  imm : Hp
  os : Os
  tape : Nat → Question → Nat
  out : Array (Nat × ByteArray)
  dr : Nat

structure Gho.le (Γ Γ' : Gho) : Prop where
  imm : ∀ b o, Γ.imm b = some o → Γ'.imm b = some o
  os : Γ'.os = Γ.os
  tape : Γ'.tape = Γ.tape
  out : Γ'.out = Γ.out
  dr : Γ'.dr = Γ.dr

theorem Gho.le.refl (Γ : Gho) : Γ.le Γ := ⟨fun _ _ h => h, rfl, rfl, rfl, rfl⟩
theorem Gho.le.trans {a b c : Gho} (h : a.le b) (k : b.le c) : a.le c := ⟨fun x o h1 => k.imm x o (h.imm x o h1), k.os.trans h.os, k.tape.trans h.tape, k.out.trans h.out, k.dr.trans h.dr⟩

structure Res where
  holds : Hp → List Nat → Hp → Prop
  loc : ∀ m m' bs h h', (∀ b o, m b = some o → m' b = some o) → (∀ b ∈ bs, h' b = h b) → holds m bs h → holds m' bs h'

def Holds (m : Hp) : List Res → List (List Nat) → Hp → Prop
  | [], [], _ => True
  | r :: S, bs :: bss, h => r.holds m bs h ∧ Holds m S bss h
  | _, _, _ => False

structure Wd (Γ : Gho) (S : List Res) (w : World) : Prop where
  os : w.os = Γ.os
  tape : w.tape = Γ.tape
  out : w.output = Γ.out
  dr : Γ.dr ≤ w.drawn
  imm : ∀ b o, Γ.imm b = some o → w.heap[b]? = some o
  own : ∃ bss, Holds Γ.imm S bss (hp w) ∧ bss.flatten.Nodup ∧ ∀ b ∈ bss.flatten, b < w.heap.size ∧ Γ.imm b = none

theorem Holds.loc {m m' h h'} (hm : ∀ b o, m b = some o → m' b = some o) : ∀ (S : List Res) (bss : List (List Nat)), (∀ b ∈ bss.flatten, h' b = h b) → Holds m S bss h → Holds m' S bss h'
  | [], [], _, _ => trivial
  | r :: S, bs :: bss, hb, hh => ⟨r.loc m m' bs h h' hm (fun b hin => hb b (by simp [hin])) hh.1, Holds.loc hm S bss (fun b hin => hb b (by simp at hin ⊢; exact .inr hin)) hh.2⟩
  | [], _ :: _, _, hh => hh.elim
  | _ :: _, [], _, hh => hh.elim

theorem Holds.length {m h} : ∀ (S : List Res) (bss : List (List Nat)), Holds m S bss h → bss.length = S.length
  | [], [], _ => rfl
  | r :: S, bs :: bss, hh => by simp [Holds.length S bss hh.2]
  | [], _ :: _, hh => hh.elim
  | _ :: _, [], hh => hh.elim

theorem Holds.get {m h} : ∀ (S : List Res) (bss : List (List Nat)) (i : Nat) (r : Res), Holds m S bss h → S[i]? = some r → ∃ bs, bss[i]? = some bs ∧ r.holds m bs h
  | r :: S, bs :: bss, 0, r', hh, hi => by cases hi; exact ⟨bs, rfl, hh.1⟩
  | r :: S, bs :: bss, i + 1, r', hh, hi => by
    obtain ⟨b, h1, h2⟩ := Holds.get S bss i r' hh.2 (by simpa using hi)
    exact ⟨b, by simpa using h1, h2⟩
  | [], _, _, _, _, hi => by simp at hi
  | _ :: _, [], _, _, hh, _ => hh.elim

theorem Holds.set {m h h'} : ∀ (S : List Res) (bss : List (List Nat)) (i : Nat) (bs bs' : List Nat) (r' : Res), Holds m S bss h → bss[i]? = some bs → (∀ b ∈ bss.flatten, b ∉ bs → h' b = h b) → bss.flatten.Nodup →
    r'.holds m bs' h' → Holds m (S.set i r') (bss.set i bs') h'
  | r :: S, b0 :: bss, 0, bs, bs', r', hh, hi, hk, hnd, hr => by
    cases hi
    refine ⟨hr, Holds.loc (fun _ _ h => h) S bss (fun b hb => hk b (by simp at hb ⊢; exact .inr hb) (fun hin => ?_)) hh.2⟩
    simp only [List.flatten_cons, List.nodup_append] at hnd
    exact hnd.2.2 b hin b hb rfl
  | r :: S, b0 :: bss, i + 1, bs, bs', r', hh, hi, hk, hnd, hr => by
    have hi' : bss[i]? = some bs := by simpa using hi
    simp only [List.flatten_cons, List.nodup_append] at hnd
    have hin : ∀ b ∈ bs, b ∈ bss.flatten := fun b hb => List.mem_flatten.2 ⟨bs, List.mem_of_getElem? hi', hb⟩
    refine ⟨r.loc m m b0 h h' (fun _ _ h => h) (fun b hb => hk b (by simp [hb]) (fun hbs => hnd.2.2 b hb b (hin b hbs) rfl)) hh.1, ?_⟩
    exact Holds.set S bss i bs bs' r' hh.2 hi' (fun b hb hn => hk b (by simp at hb ⊢; exact .inr hb) hn) hnd.2.1 hr
  | [], [], _, _, _, _, _, hi, _, _, _ => by simp at hi
  | [], _ :: _, _, _, _, _, hh, _, _, _, _ => hh.elim
  | _ :: _, [], _, _, _, _, hh, _, _, _, _ => hh.elim

/-- w' is w but for draws and what is said besides. -/
structure Same3 (w w' : World) : Prop where
  os : w'.os = w.os
  tape : w'.tape = w.tape
  out : w'.output = w.output
  dr : w.drawn ≤ w'.drawn
  size : w.heap.size ≤ w'.heap.size

theorem nodup_set_flatten {bss : List (List Nat)} {i : Nat} {bs bs' : List Nat} (hi : bss[i]? = some bs) (hnd : bss.flatten.Nodup) (h' : bs'.Nodup) (hap : ∀ b ∈ bs', b ∈ bs ∨ b ∉ bss.flatten) : (bss.set i bs').flatten.Nodup := by
  induction bss generalizing i with
  | nil => simp at hi
  | cons b0 bss ih =>
    simp only [List.flatten_cons, List.nodup_append] at hnd
    cases i with
    | zero =>
      simp at hi; subst hi
      simp only [List.set_cons_zero, List.flatten_cons, List.nodup_append]
      refine ⟨h', hnd.2.1, fun a ha b hb hab => ?_⟩
      subst hab
      rcases hap a ha with h1 | h1
      · exact hnd.2.2 a h1 a hb rfl
      · exact h1 (by simp at hb ⊢; exact .inr hb)
    | succ i =>
      have hi' : bss[i]? = some bs := by simpa using hi
      simp only [List.set_cons_succ, List.flatten_cons, List.nodup_append]
      have hin : ∀ b ∈ bs, b ∈ bss.flatten := fun b hb => List.mem_flatten.2 ⟨bs, List.mem_of_getElem? hi', hb⟩
      refine ⟨hnd.1, ih hi' hnd.2.1 (fun b hb => (hap b hb).imp id fun h hx => h (by simp at hx ⊢; exact .inr hx)), fun a ha b hb hab => ?_⟩
      subst hab
      obtain ⟨l, hl, hal⟩ := List.mem_flatten.1 hb
      rcases List.mem_or_eq_of_mem_set hl with h1 | h1
      · exact hnd.2.2 a ha a (List.mem_flatten.2 ⟨l, h1, hal⟩) rfl
      · subst h1
        rcases hap a hal with h2 | h2
        · exact hnd.2.2 a ha a (hin a h2) rfl
        · exact h2 (by simp [ha])

theorem mem_set_flatten {bss : List (List Nat)} {i : Nat} {bs' : List Nat} {b : Nat} (h : b ∈ (bss.set i bs').flatten) : b ∈ bss.flatten ∨ b ∈ bs' := by
  obtain ⟨l, hl, hal⟩ := List.mem_flatten.1 h
  rcases List.mem_or_eq_of_mem_set hl with h1 | h1
  · exact .inl (List.mem_flatten.2 ⟨l, h1, hal⟩)
  · subst h1; exact .inr hal

section
variable {Γ Γ' : Gho} {S : List Res} {w w' : World}

/-- One resource is turned; its blocks may change, new blocks may come. -/
theorem Wd.upd {i : Nat} {r r' : Res} (h : Wd Γ S w) (hi : S[i]? = some r) (hs : Same3 w w')
    (H : ∀ bs, r.holds Γ.imm bs (hp w) → bs.Nodup → (∀ b ∈ bs, b < w.heap.size) → ∃ bs', r'.holds Γ.imm bs' (hp w') ∧ bs'.Nodup ∧ (∀ b ∈ bs', b < w'.heap.size ∧ (b ∈ bs ∨ w.heap.size ≤ b)) ∧ ∀ k, k < w.heap.size → k ∉ bs → w'.heap[k]? = w.heap[k]?) :
    Wd Γ (S.set i r') w' := by
  obtain ⟨bss, h1, h2, h3⟩ := h.own
  obtain ⟨bs, hb, hr⟩ := Holds.get S bss i r h1 hi
  have hin : ∀ b ∈ bs, b ∈ bss.flatten := fun b hx => List.mem_flatten.2 ⟨bs, List.mem_of_getElem? hb, hx⟩
  have hndb : bs.Nodup := List.Sublist.nodup (List.sublist_flatten_of_mem (List.mem_of_getElem? hb)) h2
  obtain ⟨bs', g1, g2, g3, g4⟩ := H bs hr hndb (fun b hx => (h3 b (hin b hx)).1)
  have immlt : ∀ b o, Γ.imm b = some o → b < w.heap.size := fun b o hbo => by
    have := h.imm b o hbo
    exact (Array.getElem?_eq_some_iff.1 this).1
  refine ⟨hs.os.trans h.os, hs.tape.trans h.tape, hs.out.trans h.out, Nat.le_trans h.dr hs.dr, fun b o hbo => ?_, bss.set i bs', ?_, ?_, fun b hx => ?_⟩
  · rw [g4 b (immlt b o hbo) (fun hx => by have := (h3 b (hin b hx)).2; rw [hbo] at this; cases this)]; exact h.imm b o hbo
  · exact Holds.set S bss i bs bs' r' h1 hb (fun b hx hn => g4 b (h3 b hx).1 hn) h2 g1
  · exact nodup_set_flatten hb h2 g2 fun b hx => (g3 b hx).2.imp id fun hge hx' => by have := (h3 b hx').1; omega
  · rcases mem_set_flatten hx with h4 | h4
    · exact ⟨Nat.lt_of_lt_of_le (h3 b h4).1 hs.size, (h3 b h4).2⟩
    · refine ⟨(g3 b h4).1, ?_⟩
      rcases (g3 b h4).2 with h5 | h5
      · exact (h3 b (hin b h5)).2
      · cases ho : Γ.imm b with
        | none => rfl
        | some o => have := immlt b o ho; omega

/-- A new resource in new blocks. -/
theorem Wd.add {r : Res} {bs : List Nat} (h : Wd Γ S w) (hs : Same3 w w') (hr : r.holds Γ.imm bs (hp w')) (hnd : bs.Nodup) (hb : ∀ b ∈ bs, w.heap.size ≤ b ∧ b < w'.heap.size)
    (hk : ∀ k, k < w.heap.size → w'.heap[k]? = w.heap[k]?) : Wd Γ (r :: S) w' := by
  obtain ⟨bss, h1, h2, h3⟩ := h.own
  have immlt : ∀ b o, Γ.imm b = some o → b < w.heap.size := fun b o hbo => (Array.getElem?_eq_some_iff.1 (h.imm b o hbo)).1
  refine ⟨hs.os.trans h.os, hs.tape.trans h.tape, hs.out.trans h.out, Nat.le_trans h.dr hs.dr, fun b o hbo => (hk b (immlt b o hbo)).trans (h.imm b o hbo), bs :: bss, ⟨hr, ?_⟩, ?_, fun b hx => ?_⟩
  · exact Holds.loc (fun _ _ h => h) S bss (fun b hx => hk b (h3 b hx).1) h1
  · simp only [List.flatten_cons, List.nodup_append]
    exact ⟨hnd, h2, fun a ha b hb' hab => by subst hab; have := (hb a ha).1; have := (h3 a hb').1; omega⟩
  · simp only [List.flatten_cons, List.mem_append] at hx
    rcases hx with hx | hx
    · refine ⟨(hb b hx).2, ?_⟩
      cases ho : Γ.imm b with
      | none => rfl
      | some o => have := immlt b o ho; have := (hb b hx).1; omega
    · exact ⟨Nat.lt_of_lt_of_le (h3 b hx).1 hs.size, (h3 b hx).2⟩

theorem Wd.same (h : Wd Γ S w) (hs : Same3 w w') (hk : ∀ k, k < w.heap.size → w'.heap[k]? = w.heap[k]?) : Wd Γ S w' := by
  obtain ⟨bss, h1, h2, h3⟩ := h.own
  have immlt : ∀ b o, Γ.imm b = some o → b < w.heap.size := fun b o hbo => (Array.getElem?_eq_some_iff.1 (h.imm b o hbo)).1
  exact ⟨hs.os.trans h.os, hs.tape.trans h.tape, hs.out.trans h.out, Nat.le_trans h.dr hs.dr, fun b o hbo => (hk b (immlt b o hbo)).trans (h.imm b o hbo), bss,
    Holds.loc (fun _ _ h => h) S bss (fun b hx => hk b (h3 b hx).1) h1, h2, fun b hx => ⟨Nat.lt_of_lt_of_le (h3 b hx).1 hs.size, (h3 b hx).2⟩⟩

theorem Wd.drew (h : Wd Γ S w) : Wd Γ S w.drew := h.same ⟨rfl, rfl, rfl, (by first | exact Nat.le_refl _ | exact Nat.le_succ _), Nat.le_refl _⟩ fun _ _ => rfl
theorem Wd.drawn (h : Wd Γ S w) : Wd Γ S { w with drawn := w.drawn + 1 } := h.drew

/-- The order of the list does not matter. -/
theorem Holds.perm {m h} {S S' : List Res} (hp : S.Perm S') : ∀ bss, Holds m S bss h → ∃ bss', Holds m S' bss' h ∧ bss'.Perm bss := by
  induction hp with
  | nil => exact fun bss h => ⟨bss, h, .refl _⟩
  | cons r _ ih =>
    intro bss h
    cases bss with
    | nil => exact h.elim
    | cons b bss => obtain ⟨b', h1, h2⟩ := ih bss h.2; exact ⟨b :: b', ⟨h.1, h1⟩, h2.cons b⟩
  | swap r r' l =>
    intro bss h
    match bss, h with
    | b :: b' :: bss, h => exact ⟨b' :: b :: bss, ⟨h.2.1, h.1, h.2.2⟩, .swap _ _ _⟩
  | trans _ _ ih1 ih2 =>
    intro bss h
    obtain ⟨b1, h1, p1⟩ := ih1 bss h
    obtain ⟨b2, h2, p2⟩ := ih2 b1 h1
    exact ⟨b2, h2, p2.trans p1⟩

theorem Wd.perm {S' : List Res} (h : Wd Γ S w) (hp : S.Perm S') : Wd Γ S' w := by
  obtain ⟨bss, h1, h2, h3⟩ := h.own
  obtain ⟨bss', g1, g2⟩ := Holds.perm hp bss h1
  exact ⟨h.os, h.tape, h.out, h.dr, h.imm, bss', g1, (g2.flatten.nodup_iff).2 h2, fun b hx => h3 b (g2.flatten.mem_iff.1 hx)⟩

theorem Wd.drop {r : Res} (h : Wd Γ (r :: S) w) : Wd Γ S w := by
  obtain ⟨bss, h1, h2, h3⟩ := h.own
  cases bss with
  | nil => exact h1.elim
  | cons b bss =>
    simp only [List.flatten_cons, List.nodup_append] at h2
    exact ⟨h.os, h.tape, h.out, h.dr, h.imm, bss, h1.2, h2.2.1, fun x hx => h3 x (by simp at hx ⊢; exact .inr hx)⟩

theorem perm_pull : ∀ {S : List Res} {i : Nat} {r : Res}, S[i]? = some r → S.Perm (r :: S.eraseIdx i)
  | [], _, _, h => by simp at h
  | x :: S, 0, r, h => by simp at h; subst h; exact .refl _
  | x :: S, i + 1, r, h => by
    have := perm_pull (S := S) (i := i) (r := r) (by simpa using h)
    exact (this.cons x).trans (.swap _ _ _)

theorem Wd.pull {i : Nat} {r : Res} (h : Wd Γ S w) (hi : S[i]? = some r) : Wd Γ (r :: S.eraseIdx i) w := h.perm (perm_pull hi)
theorem Wd.dropAt (h : Wd Γ S w) (i : Nat) : Wd Γ (S.eraseIdx i) w := by
  cases hi : S[i]? with
  | none => rw [List.eraseIdx_of_length_le (by simpa using hi)]; exact h
  | some r => exact (h.pull hi).drop

/-- A resource that is several, with something unsaid. -/
def Res.ex {α : Type} (X : α → List Res) : Res where
  holds m bs h := ∃ x bss, bs = bss.flatten ∧ Holds m (X x) bss h
  loc m m' bs h h' hm hb := by
    rintro ⟨x, bss, rfl, hx⟩
    exact ⟨x, bss, rfl, Holds.loc hm _ _ hb hx⟩

theorem Holds.append {m h} : ∀ (S S' : List Res) (a b : List (List Nat)), Holds m S a h → Holds m S' b h → Holds m (S ++ S') (a ++ b) h
  | [], _, [], _, _, hb => hb
  | _ :: S, S', _ :: a, b, ha, hb => ⟨ha.1, Holds.append S S' a b ha.2 hb⟩
  | [], _, _ :: _, _, ha, _ => ha.elim
  | _ :: _, _, [], _, ha, _ => ha.elim

theorem Holds.split {m h} : ∀ (S S' : List Res) (c : List (List Nat)), Holds m (S ++ S') c h → ∃ a b, c = a ++ b ∧ Holds m S a h ∧ Holds m S' b h
  | [], _, c, hc => ⟨[], c, rfl, trivial, hc⟩
  | _ :: S, S', x :: c, hc => by
    obtain ⟨a, b, rfl, h1, h2⟩ := Holds.split S S' c hc.2
    exact ⟨x :: a, b, rfl, ⟨hc.1, h1⟩, h2⟩
  | _ :: _, _, [], hc => hc.elim

theorem Wd.openEx {α : Type} {X : α → List Res} (h : Wd Γ (Res.ex X :: S) w) : ∃ x, Wd Γ (X x ++ S) w := by
  obtain ⟨bss, h1, h2, h3⟩ := h.own
  cases bss with
  | nil => exact h1.elim
  | cons b bss =>
    obtain ⟨⟨x, b', rfl, hx⟩, h1⟩ := h1
    exact ⟨x, h.os, h.tape, h.out, h.dr, h.imm, b' ++ bss, Holds.append _ _ _ _ hx h1, by simpa using h2, fun y hy => h3 y (by simpa using hy)⟩
theorem Wd.closeEx {α : Type} {X : α → List Res} (x : α) (h : Wd Γ (X x ++ S) w) : Wd Γ (Res.ex X :: S) w := by
  obtain ⟨bss, h1, h2, h3⟩ := h.own
  obtain ⟨a, b, rfl, g1, g2⟩ := Holds.split _ _ _ h1
  exact ⟨h.os, h.tape, h.out, h.dr, h.imm, a.flatten :: b, ⟨⟨x, a, rfl, g1⟩, g2⟩, by simpa using h2, fun y hy => h3 y (by simpa using hy)⟩

/-! ### one block -/
def Res.blk (b : Nat) (o : Obj) : Res where
  holds _ bs h := bs = [b] ∧ h b = some o
  loc _ _ bs h h' _ hb := by rintro ⟨rfl, hx⟩; exact ⟨rfl, (hb b (by simp)).trans hx⟩

theorem Wd.at_blk {i b : Nat} {o : Obj} (h : Wd Γ S w) (hi : S[i]? = some (.blk b o)) : w.heap[b]? = some o := by
  obtain ⟨bss, h1, _, _⟩ := h.own
  obtain ⟨bs, _, hr⟩ := Holds.get S bss i _ h1 hi
  exact hr.2

theorem Wd.set_blk {i b : Nat} {o o' : Obj} (h : Wd Γ S w) (hi : S[i]? = some (.blk b o)) (hs : Same3 w w') (hb : w'.heap[b]? = some o') (hk : ∀ k, k < w.heap.size → k ≠ b → w'.heap[k]? = w.heap[k]?) :
    Wd Γ (S.set i (.blk b o')) w' :=
  h.upd hi hs fun bs hr _ hlt => by
    obtain ⟨rfl, hx⟩ := hr
    exact ⟨[b], ⟨rfl, hb⟩, by simp, fun x hx' => ⟨Nat.lt_of_lt_of_le (hlt x hx') hs.size, .inl hx'⟩, fun k hk1 hk2 => hk k hk1 (by simpa using hk2)⟩

theorem Wd.alloc (h : Wd Γ S w) (o : Obj) : Wd Γ (.blk w.heap.size o :: S) (w.alloc o) :=
  h.add (bs := [w.heap.size]) ⟨rfl, rfl, rfl, (by first | exact Nat.le_refl _ | exact Nat.le_succ _), by simp⟩ ⟨rfl, heap_alloc_new w o⟩ (by simp) (by simp) fun k hk => heap_alloc_old w o hk

theorem Wd.le (h : Wd Γ S w) {Γ' : Gho} (hl : Γ.le Γ') (himm : ∀ b o, Γ'.imm b = some o → Γ.imm b = none → w.heap[b]? = some o ∧ ∀ bss, Holds Γ.imm S bss (hp w) → bss.flatten.Nodup → b ∉ bss.flatten) : Wd Γ' S w := by
  obtain ⟨bss, h1, h2, h3⟩ := h.own
  refine ⟨h.os.trans hl.os.symm, h.tape.trans hl.tape.symm, h.out.trans hl.out.symm, hl.dr ▸ h.dr, fun b o hb => ?_, bss, Holds.loc hl.imm S bss (fun _ _ => rfl) h1, h2, fun b hb => ⟨(h3 b hb).1, ?_⟩⟩
  · cases ho : Γ.imm b with
    | none => exact (himm b o hb ho).1
    | some o' => have := hl.imm b o' ho; rw [hb] at this; cases this; exact h.imm b o ho
  · cases ho : Γ'.imm b with
    | none => rfl
    | some o => exact absurd hb ((himm b o ho (h3 b hb).2).2 bss h1 h2)

/-- What the first resource owns is given up: it stands for ever from now on. -/
def Gho.with (Γ : Gho) (w : World) (bs : List Nat) : Gho := { Γ with imm := fun b => if b ∈ bs then w.heap[b]? else Γ.imm b }

theorem Wd.give {r : Res} (h : Wd Γ (r :: S) w) : ∃ Γ' bs, Γ.le Γ' ∧ Wd Γ' S w ∧ r.holds Γ.imm bs (hp w) ∧ (∀ b ∈ bs, Γ'.imm b = w.heap[b]?) := by
  obtain ⟨bss, h1, h2, h3⟩ := h.own
  cases bss with
  | nil => exact h1.elim
  | cons bs bss =>
    simp only [List.flatten_cons, List.nodup_append] at h2
    have hle : Γ.le (Γ.with w bs) := ⟨fun b o hb => by
      have : b ∉ bs := fun hin => by have := (h3 b (by simp [hin])).2; rw [hb] at this; cases this
      simp [Gho.with, this, hb], rfl, rfl, rfl, rfl⟩
    refine ⟨Γ.with w bs, bs, hle, ⟨h.os, h.tape, h.out, h.dr, fun b o hb => ?_, bss, Holds.loc hle.imm S bss (fun _ _ => rfl) h1.2, h2.2.1, fun b hb => ⟨(h3 b (by simp at hb ⊢; exact .inr hb)).1, ?_⟩⟩, h1.1, fun b hb => by simp [Gho.with, hb]⟩
    · simp only [Gho.with] at hb
      split at hb
      · exact hb
      · exact h.imm b o hb
    · have hn : b ∉ bs := fun hin => h2.2.2 b hin b hb rfl
      simp [Gho.with, hn, (h3 b (by simp at hb ⊢; exact .inr hb)).2]
end
attribute [irreducible] Res.blk Res.ex
end Mk
