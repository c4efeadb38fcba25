/- What a map holds when keys are taken out; numbered services and waiters. -/
import Derived.Test.YtekdbdhkpolooaaN11
open Go Mk
namespace Go.Proofs.Ytekdbdhkpolooaa
set_option maxHeartbeats 400000
attribute [local irreducible] Calls

section
variable {β : Type}
theorem aGet_none {m : List (ByteArray × β)} {a : ByteArray} : aGet m a = none ↔ a ∉ m.map (·.1) := by
  unfold aGet
  cases h : aIx m a with
  | none =>
    simp only [Option.bind_none, true_iff]
    unfold aIx at h
    rw [List.findIdx?_eq_none_iff] at h
    intro hm
    obtain ⟨p, hp, rfl⟩ := List.mem_map.1 hm
    have := h p hp
    simp at this
  | some i =>
    obtain ⟨v, hv⟩ := aIx_get h
    simp only [Option.bind_some, hv, Option.map_some, reduceCtorEq, false_iff, Classical.not_not]
    exact List.mem_map.2 ⟨_, List.mem_of_getElem? hv, rfl⟩
theorem aDel_sub {m : List (ByteArray × β)} {a : ByteArray} : (aDel m a).Sublist m := by
  unfold aDel
  cases aIx m a with
  | none => exact List.Sublist.refl _
  | some i => exact List.eraseIdx_sublist _ _
theorem aDel_len {m : List (ByteArray × β)} {a : ByteArray} (h : a ∈ m.map (·.1)) : (aDel m a).length + 1 = m.length := by
  have h1 : aGet m a ≠ none := fun hn => aGet_none.1 hn h
  unfold aGet at h1
  unfold aDel
  cases hi : aIx m a with
  | none => rw [hi] at h1; simp at h1
  | some i =>
    obtain ⟨v, hv⟩ := aIx_get hi
    have := (List.getElem?_eq_some_iff.1 hv).1
    simp only [List.length_eraseIdx]
    split <;> omega
end
theorem delAll_sub : ∀ (l : List Service) (m : List (ByteArray × Service)), (delAll m l).Sublist m
  | [], _ => List.Sublist.refl _
  | x :: l, m => (delAll_sub l (aDel m x.Name)).trans aDel_sub
theorem delAll_none {l : List Service} {m : List (ByteArray × Service)} {a : ByteArray} (h : aGet m a = none) : aGet (delAll m l) a = none := by
  rw [aGet_none] at h ⊢
  exact fun hm => h (((delAll_sub l m).map _).subset hm)
theorem delAll_lt {x : Service} {l : List Service} {m : List (ByteArray × Service)} (h : x.Name ∈ m.map (·.1)) : (delAll m (x :: l)).length < m.length := by
  have h1 := (delAll_sub l (aDel m x.Name)).length_le
  have h2 := aDel_len h
  show (delAll (aDel m x.Name) l).length < _
  omega

def other : ByteArray := ⟨#[111, 116, 104, 101, 114]⟩
def third : ByteArray := ⟨#[116, 104, 105, 114, 100]⟩
def lsvc (i : Nat) : Service := ⟨longS i, (i % 32 : Nat), 0, 0⟩
def rm (k : Nat) : List (ByteArray × Service) := (List.range k).map fun i => (longS i, lsvc i)
def wtr (i : Nat) : Waiter := ⟨(i : Int) + 1, (i % 32 : Nat), other⟩
def wm (k : Nat) : List Waiter := (List.range k).map wtr
theorem all_range {p : Nat → Bool} {n k : Nat} (h : (List.range n).all p = true) (hk : k < n) : p k = true := List.all_eq_true.1 h k (List.mem_range.2 hk)
theorem reg0 {k : Nat} (hk : k < 64) : regErr (rm k) (lsvc k) = 0 := of_decide_eq_true (all_range (p := fun k => decide (regErr (rm k) (lsvc k) = 0)) (n := 64) (by kernel_rfl) hk)
theorem reg1 {k : Nat} (hk : k < 64) : regM (rm k) (lsvc k) = rm (k + 1) := of_decide_eq_true (all_range (p := fun k => decide (regM (rm k) (lsvc k) = rm (k + 1))) (n := 64) (by kernel_rfl) hk)
theorem reg2 {k : Nat} : regW (rm k) [] (lsvc k) = [] := by unfold regW; split <;> rfl
theorem reg3 {k : Nat} : regF (rm k) [] (lsvc k) = [] := by unfold regF; split <;> rfl
theorem lsize {k : Nat} (hk : k < 64) : (longS k).size = 6 := of_decide_eq_true (all_range (p := fun k => decide ((longS k).size = 6)) (n := 64) (by kernel_rfl) hk)
theorem rm_len {k : Nat} : (rm k).length = k := by simp [rm]
theorem wm_len {k : Nat} : (wm k).length = k := by simp [wm]
theorem aw0 {k : Nat} (hk : k < 64) : awErr (rm 64) (wm k) (wtr k) = 0 := of_decide_eq_true (all_range (p := fun k => decide (awErr (rm 64) (wm k) (wtr k) = 0)) (n := 64) (by kernel_rfl) hk)
theorem other_none : aGet (rm 64) other = none := by kernel_rfl
theorem third_none : aGet (rm 64) third = none := by kernel_rfl
theorem aw1 {k : Nat} (hk : k < 64) : awW (rm 64) (wm k) (wtr k) = wm (k + 1) := by
  have : (aGet (rm 64) (wtr k).Name).isNone = true := by rw [show (wtr k).Name = other from rfl, other_none]; rfl
  unfold awW; rw [if_pos ⟨aw0 hk, this⟩]
  simp [wm, List.range_succ]
theorem aw2 {k : Nat} : awF (rm 64) (wm k) (wtr k) = false := by
  unfold awF; rw [show (wtr k).Name = other from rfl, other_none]; simp
theorem reg15 : regErr (rm 64) ⟨other, 0, 0, 0⟩ = 15 := by kernel_rfl
theorem aw15 {c : Nat} (hc : c < 32) : awErr (rm 64) (wm 64) ⟨1000, c, third⟩ = 15 := of_decide_eq_true (all_range (p := fun c => decide (awErr (rm 64) (wm 64) ⟨1000, (c : Nat), third⟩ = 15)) (n := 32) (by kernel_rfl) hc)
theorem awc {c : Nat} (hc : c < 32) : awErr (rm 64) (wm 64) ⟨1000, c, longS c⟩ = 0 := of_decide_eq_true (all_range (p := fun c => decide (awErr (rm 64) (wm 64) ⟨1000, (c : Nat), longS c⟩ = 0)) (n := 32) (by kernel_rfl) hc)
theorem getc {c : Nat} (hc : c < 32) : aGet (rm 64) (longS c) = some (lsvc c) := of_decide_eq_true (all_range (p := fun c => decide (aGet (rm 64) (longS c) = some (lsvc c))) (n := 32) (by kernel_rfl) hc)
theorem gone2 {c : Nat} (hc : c < 32) : (((rm 64).map (·.2)).filter (sCore c)).length = 2 := of_decide_eq_true (all_range (p := fun c => decide ((((rm 64).map (·.2)).filter (sCore (c : Nat))).length = 2)) (n := 32) (by kernel_rfl) hc)
theorem left62 {c : Nat} (hc : c < 32) : ((wm 64).filter fun x => !ofCore c x).length = 62 := of_decide_eq_true (all_range (p := fun c => decide (((wm 64).filter fun x => !ofCore (c : Nat) x).length = 62)) (n := 32) (by kernel_rfl) hc)
theorem found62 {c : Nat} (hc : c < 32) (v : Service) (hv : v.Name = other) : (foundOf v ((wm 64).filter fun x => !ofCore c x)).length = 62 := by
  unfold foundOf
  rw [List.length_map, List.filter_eq_self.2, left62 hc]
  intro x hx
  obtain ⟨i, _, rfl⟩ := List.mem_map.1 (List.mem_filter.1 hx).1
  rw [hv]; exact decide_eq_true rfl
end Go.Proofs.Ytekdbdhkpolooaa
