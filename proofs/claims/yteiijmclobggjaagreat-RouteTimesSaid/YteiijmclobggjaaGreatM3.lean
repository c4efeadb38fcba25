/- Texts of this proof, one behind another. -/
import Derived.Test.YteiijmclobggjaaGreatM2
import Derived.Test.YteiijmclobggjaaGreatRows
import Derived.ProofKit
import Derived.OpenShut
import Derived.Deep.Slices
import Derived.ReadAgain
import Derived.Laws.MakeOwn
import Derived.Lib.UnsafeStr
import Derived.Lib.Builder
import Derived.Below
set_option linter.unusedVariables false
set_option linter.unusedSimpArgs false
/- Validate's checks: regions do not overlap (loops printed by a program). -/
section
open Go Mk
namespace Go.Proofs.YteiijmclobggjaaGreat
set_option maxHeartbeats 8000000
attribute [local irreducible] Calls
abbrev blkRows (l : List (Int × Int)) : List (List Value) := l.map fun p => [.int .u64 p.1, .int .u64 p.2]
def memBlk (m : MemT) : Int × Int := (m.Base, IntKind.u64.wrap (m.Base + m.Size))
def devBlk (m : DevT) : Int × Int := (m.Base, IntKind.u64.wrap (m.Base + m.Size))
def regs (H : HwT) : List (Int × Int) := H.Mems.map memBlk ++ H.Devs.map devBlk
def apartB (x y : Int × Int) : Bool := !(decide (x.1 < y.2) && decide (y.1 < x.2))
def DisjP (H : HwT) : Prop := ∀ (i k : Nat) (a b : Int × Int), k < i → (regs H)[i]? = some a → (regs H)[k]? = some b → apartB a b = true
noncomputable def disjB (H : HwT) : Bool := decP (DisjP H)
theorem rows_snocB {α : Type} {f : α → Int × Int} {l : List α} {L : List (Int × Int)} {k : Nat} {x : α} (hx : l[k]? = some x) : blkRows (L ++ (l.take k).map f) ++ [[.int .u64 (f x).1, .int .u64 (f x).2]] = blkRows (L ++ (l.take (k + 1)).map f) := by rw [take_succ_of hx]; simp [blkRows]
theorem rows_snocN {α : Type} {f : α → Int} {l : List α} {L : List Int} {k : Nat} {x : α} (hx : l[k]? = some x) : intRows (L ++ (l.take k).map f) ++ [[.int .i64 (f x)]] = intRows (L ++ (l.take (k + 1)).map f) := by rw [take_succ_of hx]; simp [intRows]
theorem disjoint_any {Γ : Gho} {S : List Res} {w : World} {u : Value} {H : HwT} [hh : HwR Γ u H] (hcnt : countsB H = true) (hw : Wd Γ S w) : Calls Tryz.prog 64 #[u] w fun e w' => e = .returned (.bool (disjB H)) ∧ Wd Γ S w' := by
  obtain ⟨-, l1, l2, l3, l4, l5⟩ := counts_le hcnt
  obtain ⟨a1, n1, c1, a2, n2, c2, a3, n3, c3, a4, n4, c4, a5, n5, c5, cs, rfl, hcs, hok, hsz, r1, r2, r3, r4, r5⟩ := hh.h
  obtain ⟨hn1, hm1, hx1⟩ := rep_facts r1
  obtain ⟨hn2, hm2, hx2⟩ := rep_facts r2
  obtain ⟨hn3, hm3, hx3⟩ := rep_facts r3
  obtain ⟨hn4, hm4, hx4⟩ := rep_facts r4
  obtain ⟨hn5, hm5, hx5⟩ := rep_facts r5
  simp only [List.length_map] at hn1 hn2 hn3 hn4 hn5
  refine calls_of_W Tryz.func64 rfl rfl ?_
  repeat (first | refine byW ?_ | (refine byV ?_; intro w hw))
  refine lBox ?_
  intro b1 w hw
  have hw : Wd Γ (.blk b1 (.cells #[.string H.Name, .slice a1 n1 c1, .slice a2 n2 c2, .slice a3 n3 c3, .slice a4 n4 c4, .slice a5 n5 c5] 28) :: S) w := hw
  obtain ⟨q, m, d, hq⟩ : ∃ (q : Option Addr) (m d : Nat), (.slice none 0 0 : Value) = .slice q m d := ⟨_, _, _, rfl⟩
  have hw : Wd Γ (.own (.slice none 0 0) 138 2 (blkRows []) :: .blk b1 (.cells #[.string H.Name, .slice a1 n1 c1, .slice a2 n2 c2, .slice a3 n3 c3, .slice a4 n4 c4, .slice a5 n5 c5] 28) :: S) w := Wd.addNil hw
  repeat (first | refine byW ?_ | (refine byV ?_; intro w hw))
  rw [hq] at *
  clear hq
  rw [show ([] : List (Int × Int)) = (([] : List (Int × Int)) ++ (H.Mems.take 0).map memBlk) from by simp] at hw
  repeat (first | refine byW ?_ | (refine byV ?_; intro w hw))
  refine W_loop (fun μ ρ w => ∃ (k : Nat) (q : Option Addr) (m d : Nat), μ + k = n4 ∧ Has ρ [(1, .pointer (some ⟨b1, 0, none⟩)), (3, .slice q m d), (11, .slice a4 n4 c4), (12, .int .i64 n4), (13, .int .i64 k)] ∧ Wd Γ (.own (.slice q m d) 138 2 (blkRows (([] : List (Int × Int)) ++ (H.Mems.take k).map memBlk)) :: .blk b1 (.cells #[.string H.Name, .slice a1 n1 c1, .slice a2 n2 c2, .slice a3 n3 c3, .slice a4 n4 c4, .slice a5 n5 c5] 28) :: S) w) n4 ⟨0, q, m, d, by omega, ⟨rfl, rfl, rfl, rfl, rfl, trivial⟩, hw⟩ ?_
  clear hw
  rintro μ ρ w ⟨k, q, m, d, hk, hρ, hw⟩
  have hm := own_len (i := 0) hw rfl
  simp only [blkRows, List.length_map, List.length_append, List.length_nil, List.length_take] at hm
  rw [hρ.eq]
  repeat (first | refine byW ?_ | (refine byV ?_; intro w hw))
  refine W_cond rfl (fun h => ?_) (fun h => ?_)
  · have hkn : k < n4 := by simpa using h
    obtain ⟨x, hx⟩ := get_lt (l := H.Mems) (k := k) (by omega)
    repeat (first | refine byW ?_ | (refine byV ?_; intro w hw))
    refine lAlloc ?_
    intro b9 w hw
    refine lStore ?_
    intro w hw
    have hw : Wd Γ (.blk b9 (.cells (enc x).toArray 67) :: .own (.slice q m d) 138 2 (blkRows (([] : List (Int × Int)) ++ (H.Mems.take k).map memBlk)) :: .blk b1 (.cells #[.string H.Name, .slice a1 n1 c1, .slice a2 n2 c2, .slice a3 n3 c3, .slice a4 n4 c4, .slice a5 n5 c5] 28) :: S) w := hw
    repeat (first | refine byW ?_ | (refine byV ?_; intro w hw))
    refine lBuildSlice [[.int .u64 (memBlk x).1, .int .u64 (memBlk x).2]] ?_
    intro ab w hw
    refine lApp (i := 2) (rows2 := [[.int .u64 (memBlk x).1, .int .u64 (memBlk x).2]]) ?_ (Wd.own_rd (i := 0) hw rfl)
    intro v' w hw
    obtain ⟨q', m', d', rfl, -, -, -⟩ := hw.own_shape (i := 2) rfl
    have hw : Wd Γ (.own (.slice q' m' d') 138 2 (blkRows (([] : List (Int × Int)) ++ (H.Mems.take (k + 1)).map memBlk)) :: .blk b1 (.cells #[.string H.Name, .slice a1 n1 c1, .slice a2 n2 c2, .slice a3 n3 c3, .slice a4 n4 c4, .slice a5 n5 c5] 28) :: S) w := by
      rw [← rows_snocB hx]; exact hw.drop.drop
    repeat (first | refine byW ?_ | (refine byV ?_; intro w hw))
    exact ⟨μ - 1, by omega, k + 1, _, _, _, by omega, ⟨rfl, rfl, rfl, rfl, rfl, trivial⟩, hw⟩
  have hkn : ¬ k < n4 := by simpa using h
  rw [List.take_of_length_le (l := H.Mems) (by omega)] at hw
  clear h hkn hρ hk hm
  rw [List.nil_append] at hw
  rw [show H.Mems.map memBlk = (H.Mems.map memBlk ++ (H.Devs.take 0).map devBlk) from by simp] at hw
  repeat (first | refine byW ?_ | (refine byV ?_; intro w hw))
  refine W_loop (fun μ ρ w => ∃ (k : Nat) (q : Option Addr) (m d : Nat), μ + k = n5 ∧ Has ρ [(1, .pointer (some ⟨b1, 0, none⟩)), (3, .slice q m d), (30, .slice a5 n5 c5), (31, .int .i64 n5), (32, .int .i64 k)] ∧ Wd Γ (.own (.slice q m d) 138 2 (blkRows (H.Mems.map memBlk ++ (H.Devs.take k).map devBlk)) :: .blk b1 (.cells #[.string H.Name, .slice a1 n1 c1, .slice a2 n2 c2, .slice a3 n3 c3, .slice a4 n4 c4, .slice a5 n5 c5] 28) :: S) w) n5 ⟨0, q, m, d, by omega, ⟨rfl, rfl, rfl, rfl, rfl, trivial⟩, hw⟩ ?_
  clear hw
  rintro μ ρ w ⟨k, q, m, d, hk, hρ, hw⟩
  have hm := own_len (i := 0) hw rfl
  simp only [blkRows, List.length_map, List.length_append, List.length_nil, List.length_take] at hm
  rw [hρ.eq]
  repeat (first | refine byW ?_ | (refine byV ?_; intro w hw))
  refine W_cond rfl (fun h => ?_) (fun h => ?_)
  · have hkn : k < n5 := by simpa using h
    obtain ⟨x, hx⟩ := get_lt (l := H.Devs) (k := k) (by omega)
    repeat (first | refine byW ?_ | (refine byV ?_; intro w hw))
    refine lAlloc ?_
    intro b9 w hw
    refine lStore ?_
    intro w hw
    have hw : Wd Γ (.blk b9 (.cells (enc x).toArray 69) :: .own (.slice q m d) 138 2 (blkRows (H.Mems.map memBlk ++ (H.Devs.take k).map devBlk)) :: .blk b1 (.cells #[.string H.Name, .slice a1 n1 c1, .slice a2 n2 c2, .slice a3 n3 c3, .slice a4 n4 c4, .slice a5 n5 c5] 28) :: S) w := hw
    repeat (first | refine byW ?_ | (refine byV ?_; intro w hw))
    refine lBuildSlice [[.int .u64 (devBlk x).1, .int .u64 (devBlk x).2]] ?_
    intro ab w hw
    refine lApp (i := 2) (rows2 := [[.int .u64 (devBlk x).1, .int .u64 (devBlk x).2]]) ?_ (Wd.own_rd (i := 0) hw rfl)
    intro v' w hw
    obtain ⟨q', m', d', rfl, -, -, -⟩ := hw.own_shape (i := 2) rfl
    have hw : Wd Γ (.own (.slice q' m' d') 138 2 (blkRows (H.Mems.map memBlk ++ (H.Devs.take (k + 1)).map devBlk)) :: .blk b1 (.cells #[.string H.Name, .slice a1 n1 c1, .slice a2 n2 c2, .slice a3 n3 c3, .slice a4 n4 c4, .slice a5 n5 c5] 28) :: S) w := by
      rw [← rows_snocB hx]; exact hw.drop.drop
    repeat (first | refine byW ?_ | (refine byV ?_; intro w hw))
    exact ⟨μ - 1, by omega, k + 1, _, _, _, by omega, ⟨rfl, rfl, rfl, rfl, rfl, trivial⟩, hw⟩
  have hkn : ¬ k < n5 := by simpa using h
  rw [List.take_of_length_le (l := H.Devs) (by omega)] at hw
  clear h hkn hρ hk hm
  have hw : Wd Γ (.own (.slice q m d) 138 2 (blkRows (regs H)) :: .blk b1 (.cells #[.string H.Name, .slice a1 n1 c1, .slice a2 n2 c2, .slice a3 n3 c3, .slice a4 n4 c4, .slice a5 n5 c5] 28) :: S) w := hw
  have hm := own_len (i := 0) hw rfl
  simp only [blkRows, List.length_map] at hm
  have hmb : m ≤ 96 := by rw [hm]; simp [regs]; omega
  repeat (first | refine byW ?_ | (refine byV ?_; intro w hw))
  refine W_loop (fun μ ρ w => ∃ (i : Nat), μ + i = m ∧ Has ρ [(3, .slice q m d), (49, .int .i64 m), (50, .int .i64 i)] ∧ (∀ (i' k : Nat) (a b : Int × Int), i' < i → k < i' → (regs H)[i']? = some a → (regs H)[k]? = some b → apartB a b = true) ∧ Wd Γ (.own (.slice q m d) 138 2 (blkRows (regs H)) :: .blk b1 (.cells #[.string H.Name, .slice a1 n1 c1, .slice a2 n2 c2, .slice a3 n3 c3, .slice a4 n4 c4, .slice a5 n5 c5] 28) :: S) w) m ⟨0, by omega, ⟨rfl, rfl, rfl, trivial⟩, fun i' k a b h => by omega, hw⟩ ?_
  clear hw
  rintro μ ρ w ⟨i, hi, hρ, hall, hw⟩
  rw [hρ.eq]
  repeat (first | refine byW ?_ | (refine byV ?_; intro w hw))
  refine W_cond rfl (fun h => ?_) (fun h => ?_)
  · have hin : i < m := by simpa using h
    obtain ⟨x, hx⟩ := get_lt (l := regs H) (k := i) (by omega)
    repeat (first | refine byW ?_ | (refine byV ?_; intro w hw))
    refine W_loop (fun μ2 ρ w => ∃ (k : Nat), μ2 + k = i ∧ Has ρ [(3, .slice q m d), (8, .int .i64 i), (9, .int .i64 k), (49, .int .i64 m), (50, .int .i64 i)] ∧ (∀ (j : Nat) (b : Int × Int), j < k → (regs H)[j]? = some b → apartB x b = true) ∧ Wd Γ (.own (.slice q m d) 138 2 (blkRows (regs H)) :: .blk b1 (.cells #[.string H.Name, .slice a1 n1 c1, .slice a2 n2 c2, .slice a3 n3 c3, .slice a4 n4 c4, .slice a5 n5 c5] 28) :: S) w) i ⟨0, by omega, ⟨rfl, rfl, rfl, rfl, rfl, trivial⟩, fun j b h => by omega, hw⟩ ?_
    clear hw
    rintro μ2 ρ w ⟨k, hk, hρ, hall2, hw⟩
    rw [hρ.eq]
    repeat (first | refine byW ?_ | (refine byV ?_; intro w hw))
    refine W_cond rfl (fun h2 => ?_) (fun h2 => ?_)
    · have hki : k < i := by simpa using h2
      obtain ⟨y, hy⟩ := get_lt (l := regs H) (k := k) (by omega)
      repeat (first | refine byW ?_ | (refine byV ?_; intro w hw))
      refine W_quiet (by kernel_rfl) (by kernel_rfl) hw ?_
      repeat (first | refine Q_nil ?_ | (apply Q_plain; first | (apply Q_go; first | refine qP ?_ | refine qPg ?_) | refine qY ?_) | (apply Q_guarded; first | (apply Q_go; first | refine qPG ?_ | refine qPgG ?_) | refine qG ?_))
      intro w hw
      refine W_cond rfl (fun h3 => ?_) (fun h3 => ?_)
      · have hp : apartB x y = false := by unfold apartB; exact congrArg (fun b => !b) h3
        repeat (first | refine byW ?_ | (refine byV ?_; intro w hw))
        refine ⟨_, rfl, ret_b rfl ?_, hw.drop.drop⟩
        refine (decP_f fun hP => ?_).symm
        rw [hP i k x y hki hx hy] at hp; cases hp
      · have hp : apartB x y = true := by unfold apartB; exact congrArg (fun b => !b) h3
        repeat (first | refine byW ?_ | (refine byV ?_; intro w hw))
        exact ⟨μ2 - 1, by omega, k + 1, by omega, ⟨rfl, rfl, rfl, rfl, rfl, trivial⟩, all_step hall2 hy hp, hw⟩
    · have hki : ¬ k < i := by simpa using h2
      repeat (first | refine byW ?_ | (refine byV ?_; intro w hw))
      refine ⟨μ - 1, by omega, i + 1, by omega, ⟨rfl, rfl, rfl, trivial⟩, fun i' j a b h1 h3 ha hb => ?_, hw⟩
      by_cases e : i' = i
      · subst e; rw [hx] at ha; cases ha
        exact hall2 j b (by omega) hb
      · exact hall i' j a b (by omega) h3 ha hb
  · have hin : ¬ i < m := by simpa using h
    repeat (first | refine byW ?_ | (refine byV ?_; intro w hw))
    refine ⟨_, rfl, ret_b rfl ?_, hw.drop.drop⟩
    exact (decP_t fun p q a b hpq ha hb => hall p q a b (by have := (List.getElem?_eq_some_iff.1 ha).1; omega) hpq ha hb).symm

/-! ### connected nodes -/
inductive Reach (ls : List LinkT) (s : Int) : Int → Prop
  | refl : Reach ls s s
  | ab {l : LinkT} : l ∈ ls → Reach ls s l.A → Reach ls s l.B
  | ba {l : LinkT} : l ∈ ls → Reach ls s l.B → Reach ls s l.A
def usedN (H : HwT) : List Int := (H.Cores.map (fun c => c.Node) ++ H.Mems.map (fun c => c.Node)) ++ H.Devs.map (fun c => c.Node)
def ConnP (H : HwT) : Prop := ∀ n ∈ usedN H, Reach H.Links ((usedN H).headD 0) n
noncomputable def connB (H : HwT) : Bool := decP (ConnP H)
theorem head_used {H : HwT} {s0 : Int} (h : (usedN H)[0]? = some s0) : (usedN H).headD 0 = s0 := by
  cases hu : usedN H with
  | nil => rw [hu] at h; cases h
  | cons a l => rw [hu] at h; simpa using h
theorem nodes_in {H : HwT} (h1 : coresRB H = true) (h2 : regionsRB H = true) : (∀ n ∈ usedN H, 0 ≤ n ∧ n < 64) ∧ ∀ l ∈ H.Links, 0 ≤ l.A ∧ l.A < 64 ∧ 0 ≤ l.B ∧ l.B < 64 := by
  unfold coresRB at h1
  unfold regionsRB at h2
  simp only [Bool.and_eq_true, List.all_eq_true] at h1 h2
  obtain ⟨hc, -, hl⟩ := h1
  obtain ⟨hm, hd⟩ := h2
  refine ⟨fun n hn => ?_, fun l hl' => ?_⟩
  · unfold usedN at hn
    simp only [List.mem_append, List.mem_map] at hn
    rcases hn with (⟨c, hcm, rfl⟩ | ⟨c, hcm, rfl⟩) | ⟨c, hcm, rfl⟩
    · have := hc c hcm; simp [coreRB, isNodeB] at this; omega
    · have := hm c hcm; simp [memRB, isNodeB] at this; omega
    · have := hd c hcm; simp [devRB, isNodeB] at this; omega
  · have := hl l hl'; simp [linkRB, isNodeB] at this; omega
structure Known (ls : List LinkT) (s : Int) (R : List Bool) : Prop where
  len : R.length = 64
  ok : ∀ (j : Nat), R[j]? = some true → ∃ n : Int, n.toNat = j ∧ 0 ≤ n ∧ Reach ls s n
theorem known_start {ls : List LinkT} {s : Int} (h : 0 ≤ s ∧ s < 64) : Known ls s ((List.replicate 64 false).set s.toNat true) := ⟨by simp, fun j hj => by
  rw [List.getElem?_set] at hj
  split at hj
  · rename_i e; exact ⟨s, e, h.1, .refl⟩
  · rw [List.getElem?_replicate] at hj
    split at hj <;> simp at hj⟩
theorem Known.set {ls : List LinkT} {s n : Int} {R : List Bool} (h : Known ls s R) (hn : 0 ≤ n) (hr : Reach ls s n) : Known ls s (R.set n.toNat true) := ⟨by simp [h.len], fun j hj => by
  rw [List.getElem?_set] at hj
  split at hj
  · rename_i e; exact ⟨n, e, hn, hr⟩
  · exact h.ok j hj⟩
theorem known_iff {ls : List LinkT} {s n : Int} {R : List Bool} (h : Known ls s R) (h0 : R[s.toNat]? = some true) (hs : 0 ≤ s) (hL : ∀ l ∈ ls, 0 ≤ l.A ∧ l.A < 64 ∧ 0 ≤ l.B ∧ l.B < 64) (hcl : ∀ l ∈ ls, R.getD l.A.toNat false = R.getD l.B.toNat false) (hn : 0 ≤ n ∧ n < 64) : R.getD n.toNat false = true ↔ Reach ls s n := by
  constructor
  · intro hg
    rw [List.getD_eq_getElem?_getD] at hg
    obtain ⟨b, hb⟩ := get_lt (l := R) (k := n.toNat) (by rw [h.len]; omega)
    rw [hb] at hg
    have hg : b = true := hg
    subst hg
    obtain ⟨x, hx, hx0, hr⟩ := h.ok _ hb
    have : x = n := by omega
    subst this; exact hr
  · intro hr
    clear hn
    induction hr with
    | refl => rw [List.getD_eq_getElem?_getD, h0]; rfl
    | ab hl _ ih => rw [← hcl _ hl]; exact ih
    | ba hl _ ih => rw [hcl _ hl]; exact ih
theorem set_self {R : List Bool} {k : Nat} {b : Bool} (h : k < R.length) : (R.set k b)[k]? = some b := by rw [List.getElem?_set_self h]
theorem getBool {R : List Bool} {k : Nat} {b : Bool} (h : R[k]? = some b) : ((R.map Value.bool).toArray)[0 + k * 1]? = some (.bool b) := by simp [h]
theorem putBool {R : List Bool} {k : Nat} {b : Bool} (h : k < R.length) : putCells (R.map Value.bool).toArray (0 + k * 1) [.bool b] = ((R.set k b).map Value.bool).toArray := by
  unfold putCells
  rw [Nat.zero_add, Nat.mul_one, List.set_eq_take_append_cons_drop, if_pos h]
  simp
theorem y_neqlb {P : Program} {d : Option Tmp} {T U ty : TypeId} {pos : String} {es : Array Edge} {g : Option (Nat × Bool)} {x y : Operand} {ρ : Fr} {w : World} {a b : Bool} (hT : P.underlying T = some .bool) (hx : ev ρ x = .bool a) (hy : ev ρ y = .bool b) : Mk.Yields P ⟨d, .binOp .neq T x y U, ty, pos, es, g⟩ ρ w (.bool (a != b)) := by
  unfold Mk.Yields; simp [execOp, go_sem, hx, hy, hT]; cases a <;> cases b <;> rfl
theorem count_set_le {R : List Bool} {k : Nat} : (R.set k true).count false ≤ R.count false := by
  induction R generalizing k with
  | nil => simp
  | cons b l ih =>
    cases k with
    | zero => cases b <;> simp
    | succ k => simp only [List.set_cons_succ, List.count_cons]; have := ih (k := k); omega
theorem count_set_lt {R : List Bool} {k : Nat} (h : R[k]? = some false) : (R.set k true).count false + 1 ≤ R.count false := by
  induction R generalizing k with
  | nil => simp at h
  | cons b l ih =>
    cases k with
    | zero => simp at h; subst h; simp
    | succ k => simp at h; simp only [List.set_cons_succ, List.count_cons]; have := ih (k := k) (by simpa using h); omega
theorem connected_any {Γ : Gho} {S : List Res} {w : World} {u : Value} {H : HwT} [hh : HwR Γ u H] (hcnt : countsB H = true) (hcr : coresRB H = true) (hrr : regionsRB H = true) (hw : Wd Γ S w) : Calls Tryz.prog 65 #[u] w fun e w' => e = .returned (.bool (connB H)) ∧ Wd Γ S w' := by
  obtain ⟨l0, l1, l2, l3, l4, l5⟩ := counts_le hcnt
  obtain ⟨hNd, hLk⟩ := nodes_in hcr hrr
  obtain ⟨a1, n1, c1, a2, n2, c2, a3, n3, c3, a4, n4, c4, a5, n5, c5, cs, rfl, hcs, hok, hsz, r1, r2, r3, r4, r5⟩ := hh.h
  obtain ⟨hn1, hm1, hx1⟩ := rep_facts r1
  obtain ⟨hn2, hm2, hx2⟩ := rep_facts r2
  obtain ⟨hn3, hm3, hx3⟩ := rep_facts r3
  obtain ⟨hn4, hm4, hx4⟩ := rep_facts r4
  obtain ⟨hn5, hm5, hx5⟩ := rep_facts r5
  simp only [List.length_map] at hn1 hn2 hn3 hn4 hn5
  refine calls_of_W Tryz.func65 rfl rfl ?_
  repeat (first | refine byW ?_ | (refine byV ?_; intro w hw))
  refine lBox ?_
  intro b1 w hw
  have hw : Wd Γ (.blk b1 (.cells #[.string H.Name, .slice a1 n1 c1, .slice a2 n2 c2, .slice a3 n3 c3, .slice a4 n4 c4, .slice a5 n5 c5] 28) :: S) w := hw
  obtain ⟨q, m, d, hq⟩ : ∃ (q : Option Addr) (m d : Nat), (.slice none 0 0 : Value) = .slice q m d := ⟨_, _, _, rfl⟩
  have hw : Wd Γ (.own (.slice none 0 0) 3 1 (intRows []) :: .blk b1 (.cells #[.string H.Name, .slice a1 n1 c1, .slice a2 n2 c2, .slice a3 n3 c3, .slice a4 n4 c4, .slice a5 n5 c5] 28) :: S) w := Wd.addNil hw
  repeat (first | refine byW ?_ | (refine byV ?_; intro w hw))
  rw [hq] at *
  clear hq
  rw [show ([] : List Int) = (([] : List Int) ++ (H.Cores.take 0).map (fun c => c.Node)) from by simp] at hw
  repeat (first | refine byW ?_ | (refine byV ?_; intro w hw))
  refine W_loop (fun μ ρ w => ∃ (k : Nat) (q : Option Addr) (m d : Nat), μ + k = n1 ∧ Has ρ [(1, .pointer (some ⟨b1, 0, none⟩)), (3, .slice q m d), (17, .slice a1 n1 c1), (18, .int .i64 n1), (19, .int .i64 k)] ∧ Wd Γ (.own (.slice q m d) 3 1 (intRows (([] : List Int) ++ (H.Cores.take k).map (fun c => c.Node))) :: .blk b1 (.cells #[.string H.Name, .slice a1 n1 c1, .slice a2 n2 c2, .slice a3 n3 c3, .slice a4 n4 c4, .slice a5 n5 c5] 28) :: S) w) n1 ⟨0, q, m, d, by omega, ⟨rfl, rfl, rfl, rfl, rfl, trivial⟩, hw⟩ ?_
  clear hw
  rintro μ ρ w ⟨k, q, m, d, hk, hρ, hw⟩
  have hm := own_len (i := 0) hw rfl
  simp only [intRows, List.length_map, List.length_append, List.length_nil, List.length_take] at hm
  rw [hρ.eq]
  repeat (first | refine byW ?_ | (refine byV ?_; intro w hw))
  refine W_cond rfl (fun h => ?_) (fun h => ?_)
  · have hkn : k < n1 := by simpa using h
    obtain ⟨x, hx⟩ := get_lt (l := H.Cores) (k := k) (by omega)
    repeat (first | refine byW ?_ | (refine byV ?_; intro w hw))
    refine lAlloc ?_
    intro b9 w hw
    refine lStore ?_
    intro w hw
    have hw : Wd Γ (.blk b9 (.cells (enc x).toArray 53) :: .own (.slice q m d) 3 1 (intRows (([] : List Int) ++ (H.Cores.take k).map (fun c => c.Node))) :: .blk b1 (.cells #[.string H.Name, .slice a1 n1 c1, .slice a2 n2 c2, .slice a3 n3 c3, .slice a4 n4 c4, .slice a5 n5 c5] 28) :: S) w := hw
    repeat (first | refine byW ?_ | (refine byV ?_; intro w hw))
    refine lBuildSlice [[.int .i64 x.Node]] ?_
    intro ab w hw
    refine lApp (i := 2) (rows2 := [[.int .i64 x.Node]]) ?_ (Wd.own_rd (i := 0) hw rfl)
    intro v' w hw
    obtain ⟨q', m', d', rfl, -, -, -⟩ := hw.own_shape (i := 2) rfl
    have hw : Wd Γ (.own (.slice q' m' d') 3 1 (intRows (([] : List Int) ++ (H.Cores.take (k + 1)).map (fun c => c.Node))) :: .blk b1 (.cells #[.string H.Name, .slice a1 n1 c1, .slice a2 n2 c2, .slice a3 n3 c3, .slice a4 n4 c4, .slice a5 n5 c5] 28) :: S) w := by
      rw [← rows_snocN (f := fun c : CoreT => c.Node) hx]; exact hw.drop.drop
    repeat (first | refine byW ?_ | (refine byV ?_; intro w hw))
    exact ⟨μ - 1, by omega, k + 1, _, _, _, by omega, ⟨rfl, rfl, rfl, rfl, rfl, trivial⟩, hw⟩
  have hkn : ¬ k < n1 := by simpa using h
  rw [List.take_of_length_le (l := H.Cores) (by omega)] at hw
  clear h hkn hρ hk hm
  rw [List.nil_append] at hw
  rw [show H.Cores.map (fun c => c.Node) = (H.Cores.map (fun c => c.Node) ++ (H.Mems.take 0).map (fun c => c.Node)) from by simp] at hw
  repeat (first | refine byW ?_ | (refine byV ?_; intro w hw))
  refine W_loop (fun μ ρ w => ∃ (k : Nat) (q : Option Addr) (m d : Nat), μ + k = n4 ∧ Has ρ [(1, .pointer (some ⟨b1, 0, none⟩)), (3, .slice q m d), (30, .slice a4 n4 c4), (31, .int .i64 n4), (32, .int .i64 k)] ∧ Wd Γ (.own (.slice q m d) 3 1 (intRows (H.Cores.map (fun c => c.Node) ++ (H.Mems.take k).map (fun c => c.Node))) :: .blk b1 (.cells #[.string H.Name, .slice a1 n1 c1, .slice a2 n2 c2, .slice a3 n3 c3, .slice a4 n4 c4, .slice a5 n5 c5] 28) :: S) w) n4 ⟨0, q, m, d, by omega, ⟨rfl, rfl, rfl, rfl, rfl, trivial⟩, hw⟩ ?_
  clear hw
  rintro μ ρ w ⟨k, q, m, d, hk, hρ, hw⟩
  have hm := own_len (i := 0) hw rfl
  simp only [intRows, List.length_map, List.length_append, List.length_nil, List.length_take] at hm
  rw [hρ.eq]
  repeat (first | refine byW ?_ | (refine byV ?_; intro w hw))
  refine W_cond rfl (fun h => ?_) (fun h => ?_)
  · have hkn : k < n4 := by simpa using h
    obtain ⟨x, hx⟩ := get_lt (l := H.Mems) (k := k) (by omega)
    repeat (first | refine byW ?_ | (refine byV ?_; intro w hw))
    refine lAlloc ?_
    intro b9 w hw
    refine lStore ?_
    intro w hw
    have hw : Wd Γ (.blk b9 (.cells (enc x).toArray 67) :: .own (.slice q m d) 3 1 (intRows (H.Cores.map (fun c => c.Node) ++ (H.Mems.take k).map (fun c => c.Node))) :: .blk b1 (.cells #[.string H.Name, .slice a1 n1 c1, .slice a2 n2 c2, .slice a3 n3 c3, .slice a4 n4 c4, .slice a5 n5 c5] 28) :: S) w := hw
    repeat (first | refine byW ?_ | (refine byV ?_; intro w hw))
    refine lBuildSlice [[.int .i64 x.Node]] ?_
    intro ab w hw
    refine lApp (i := 2) (rows2 := [[.int .i64 x.Node]]) ?_ (Wd.own_rd (i := 0) hw rfl)
    intro v' w hw
    obtain ⟨q', m', d', rfl, -, -, -⟩ := hw.own_shape (i := 2) rfl
    have hw : Wd Γ (.own (.slice q' m' d') 3 1 (intRows (H.Cores.map (fun c => c.Node) ++ (H.Mems.take (k + 1)).map (fun c => c.Node))) :: .blk b1 (.cells #[.string H.Name, .slice a1 n1 c1, .slice a2 n2 c2, .slice a3 n3 c3, .slice a4 n4 c4, .slice a5 n5 c5] 28) :: S) w := by
      rw [← rows_snocN (f := fun c : MemT => c.Node) hx]; exact hw.drop.drop
    repeat (first | refine byW ?_ | (refine byV ?_; intro w hw))
    exact ⟨μ - 1, by omega, k + 1, _, _, _, by omega, ⟨rfl, rfl, rfl, rfl, rfl, trivial⟩, hw⟩
  have hkn : ¬ k < n4 := by simpa using h
  rw [List.take_of_length_le (l := H.Mems) (by omega)] at hw
  clear h hkn hρ hk hm
  rw [show (H.Cores.map (fun c => c.Node) ++ H.Mems.map (fun c => c.Node)) = ((H.Cores.map (fun c => c.Node) ++ H.Mems.map (fun c => c.Node)) ++ (H.Devs.take 0).map (fun c => c.Node)) from by simp] at hw
  repeat (first | refine byW ?_ | (refine byV ?_; intro w hw))
  refine W_loop (fun μ ρ w => ∃ (k : Nat) (q : Option Addr) (m d : Nat), μ + k = n5 ∧ Has ρ [(1, .pointer (some ⟨b1, 0, none⟩)), (3, .slice q m d), (43, .slice a5 n5 c5), (44, .int .i64 n5), (45, .int .i64 k)] ∧ Wd Γ (.own (.slice q m d) 3 1 (intRows ((H.Cores.map (fun c => c.Node) ++ H.Mems.map (fun c => c.Node)) ++ (H.Devs.take k).map (fun c => c.Node))) :: .blk b1 (.cells #[.string H.Name, .slice a1 n1 c1, .slice a2 n2 c2, .slice a3 n3 c3, .slice a4 n4 c4, .slice a5 n5 c5] 28) :: S) w) n5 ⟨0, q, m, d, by omega, ⟨rfl, rfl, rfl, rfl, rfl, trivial⟩, hw⟩ ?_
  clear hw
  rintro μ ρ w ⟨k, q, m, d, hk, hρ, hw⟩
  have hm := own_len (i := 0) hw rfl
  simp only [intRows, List.length_map, List.length_append, List.length_nil, List.length_take] at hm
  rw [hρ.eq]
  repeat (first | refine byW ?_ | (refine byV ?_; intro w hw))
  refine W_cond rfl (fun h => ?_) (fun h => ?_)
  · have hkn : k < n5 := by simpa using h
    obtain ⟨x, hx⟩ := get_lt (l := H.Devs) (k := k) (by omega)
    repeat (first | refine byW ?_ | (refine byV ?_; intro w hw))
    refine lAlloc ?_
    intro b9 w hw
    refine lStore ?_
    intro w hw
    have hw : Wd Γ (.blk b9 (.cells (enc x).toArray 69) :: .own (.slice q m d) 3 1 (intRows ((H.Cores.map (fun c => c.Node) ++ H.Mems.map (fun c => c.Node)) ++ (H.Devs.take k).map (fun c => c.Node))) :: .blk b1 (.cells #[.string H.Name, .slice a1 n1 c1, .slice a2 n2 c2, .slice a3 n3 c3, .slice a4 n4 c4, .slice a5 n5 c5] 28) :: S) w := hw
    repeat (first | refine byW ?_ | (refine byV ?_; intro w hw))
    refine lBuildSlice [[.int .i64 x.Node]] ?_
    intro ab w hw
    refine lApp (i := 2) (rows2 := [[.int .i64 x.Node]]) ?_ (Wd.own_rd (i := 0) hw rfl)
    intro v' w hw
    obtain ⟨q', m', d', rfl, -, -, -⟩ := hw.own_shape (i := 2) rfl
    have hw : Wd Γ (.own (.slice q' m' d') 3 1 (intRows ((H.Cores.map (fun c => c.Node) ++ H.Mems.map (fun c => c.Node)) ++ (H.Devs.take (k + 1)).map (fun c => c.Node))) :: .blk b1 (.cells #[.string H.Name, .slice a1 n1 c1, .slice a2 n2 c2, .slice a3 n3 c3, .slice a4 n4 c4, .slice a5 n5 c5] 28) :: S) w := by
      rw [← rows_snocN (f := fun c : DevT => c.Node) hx]; exact hw.drop.drop
    repeat (first | refine byW ?_ | (refine byV ?_; intro w hw))
    exact ⟨μ - 1, by omega, k + 1, _, _, _, by omega, ⟨rfl, rfl, rfl, rfl, rfl, trivial⟩, hw⟩
  have hkn : ¬ k < n5 := by simpa using h
  rw [List.take_of_length_le (l := H.Devs) (by omega)] at hw
  clear h hkn hρ hk hm
  have hw : Wd Γ (.own (.slice q m d) 3 1 (intRows (usedN H)) :: .blk b1 (.cells #[.string H.Name, .slice a1 n1 c1, .slice a2 n2 c2, .slice a3 n3 c3, .slice a4 n4 c4, .slice a5 n5 c5] 28) :: S) w := hw
  have hm := own_len (i := 0) hw rfl
  simp only [intRows, List.length_map] at hm
  have hmb : 1 ≤ m ∧ m ≤ 128 := by rw [hm]; simp [usedN]; omega
  obtain ⟨s0, hs0⟩ := get_lt (l := usedN H) (k := 0) (by omega)
  obtain ⟨hs1, hs2⟩ := hNd s0 (List.mem_of_getElem? hs0)
  repeat (first | refine byW ?_ | (refine byV ?_; intro w hw))
  refine lAlloc ?_
  intro b10 w hw
  have hw : Wd Γ (.blk b10 (.cells ((List.replicate 64 false).map Value.bool).toArray 128) :: .own (.slice q m d) 3 1 (intRows (usedN H)) :: .blk b1 (.cells #[.string H.Name, .slice a1 n1 c1, .slice a2 n2 c2, .slice a3 n3 c3, .slice a4 n4 c4, .slice a5 n5 c5] 28) :: S) w := hw
  repeat (first | refine byW ?_ | (refine byV ?_; intro w hw))
  refine lStore (o := 0 + s0.toNat * 1) (ho := by simp; omega) ?_
  intro w hw
  have hw : Wd Γ (.blk b10 (.cells (putCells ((List.replicate 64 false).map Value.bool).toArray (0 + s0.toNat * 1) [.bool true]) 128) :: .own (.slice q m d) 3 1 (intRows (usedN H)) :: .blk b1 (.cells #[.string H.Name, .slice a1 n1 c1, .slice a2 n2 c2, .slice a3 n3 c3, .slice a4 n4 c4, .slice a5 n5 c5] 28) :: S) w := hw
  rw [putBool (by simp; omega)] at hw
  repeat (first | refine byW ?_ | (refine byV ?_; intro w hw))
  have hst : Known H.Links s0 ((List.replicate 64 false).set s0.toNat true) := known_start (by omega)
  refine W_loop (fun μ ρ w => ∃ (R : List Bool) (ch : Bool), 2 * R.count false + (if ch = true then 1 else 0) ≤ μ ∧ Known H.Links s0 R ∧ R[s0.toNat]? = some true ∧ (ch = false → ∀ l ∈ H.Links, R.getD l.A.toNat false = R.getD l.B.toNat false) ∧ Has ρ [(1, .pointer (some ⟨b1, 0, none⟩)), (3, .slice q m d), (10, .pointer (some ⟨b10, 0, none⟩)), (11, .bool ch)] ∧ Wd Γ (.blk b10 (.cells ((R).map Value.bool).toArray 128) :: .own (.slice q m d) 3 1 (intRows (usedN H)) :: .blk b1 (.cells #[.string H.Name, .slice a1 n1 c1, .slice a2 n2 c2, .slice a3 n3 c3, .slice a4 n4 c4, .slice a5 n5 c5] 28) :: S) w) 200 ⟨_, true, by have := List.count_le_length (a := false) (l := (List.replicate 64 false).set s0.toNat true); simp at this ⊢; omega, hst, set_self (by simp; omega), (fun h => by cases h), ⟨rfl, rfl, rfl, rfl, trivial⟩, hw⟩ ?_
  clear hw
  rintro μ ρ w ⟨R, ch, hμ, hkn, hR0, hcl, hρ, hw⟩
  have hRl := hkn.len
  rw [hρ.eq]
  repeat (first | refine byW ?_ | (refine byV ?_; intro w hw))
  refine W_cond rfl (fun h => ?_) (fun h => ?_)
  · subst h
    clear hcl
    repeat (first | refine byW ?_ | (refine byV ?_; intro w hw))
    refine W_loop (fun μ2 ρ w => ∃ (k : Nat) (R2 : List Bool) (ch : Bool), μ2 + k = n3 ∧ Known H.Links s0 R2 ∧ R2[s0.toNat]? = some true ∧ 2 * R2.count false + (if ch = true then 1 else 0) + 1 ≤ 2 * R.count false + 1 ∧ (ch = false → ∀ (i : Nat) (l : LinkT), i < k → H.Links[i]? = some l → R2.getD l.A.toNat false = R2.getD l.B.toNat false) ∧ Has ρ [(1, .pointer (some ⟨b1, 0, none⟩)), (3, .slice q m d), (10, .pointer (some ⟨b10, 0, none⟩)), (11, .bool ch), (61, .slice a3 n3 c3), (62, .int .i64 n3), (63, .int .i64 k)] ∧ Wd Γ (.blk b10 (.cells ((R2).map Value.bool).toArray 128) :: .own (.slice q m d) 3 1 (intRows (usedN H)) :: .blk b1 (.cells #[.string H.Name, .slice a1 n1 c1, .slice a2 n2 c2, .slice a3 n3 c3, .slice a4 n4 c4, .slice a5 n5 c5] 28) :: S) w) n3 ⟨0, R, false, by omega, hkn, hR0, by simp, fun _ i l h => by omega, ⟨rfl, rfl, rfl, rfl, rfl, rfl, rfl, trivial⟩, hw⟩ ?_
    clear hw hkn hR0 hRl
    rintro μ2 ρ w ⟨k, R2, ch, hk, hkn, hR0, hcnt2, hcl, hρ, hw⟩
    have hRl := hkn.len
    rw [hρ.eq]
    repeat (first | refine byW ?_ | (refine byV ?_; intro w hw))
    refine W_cond rfl (fun h2 => ?_) (fun h2 => ?_)
    · have hkn3 : k < n3 := by simpa using h2
      obtain ⟨x, hx⟩ := get_lt (l := H.Links) (k := k) (by omega)
      obtain ⟨hA0, hA1, hB0, hB1⟩ := hLk x (List.mem_of_getElem? hx)
      obtain ⟨ba, hba⟩ := get_lt (l := R2) (k := x.A.toNat) (by omega)
      obtain ⟨bb, hbb⟩ := get_lt (l := R2) (k := x.B.toNat) (by omega)
      repeat (first | refine byW ?_ | (refine byV ?_; intro w hw))
      refine lAlloc ?_
      intro b13 w hw
      refine lStore ?_
      intro w hw
      have hw : Wd Γ (.blk b13 (.cells (enc x).toArray 56) :: .blk b10 (.cells ((R2).map Value.bool).toArray 128) :: .own (.slice q m d) 3 1 (intRows (usedN H)) :: .blk b1 (.cells #[.string H.Name, .slice a1 n1 c1, .slice a2 n2 c2, .slice a3 n3 c3, .slice a4 n4 c4, .slice a5 n5 c5] 28) :: S) w := hw
      repeat (first | refine byW ?_ | (refine byV ?_; intro w hw))
      refine W_quiet (by kernel_rfl) (by kernel_rfl) hw ?_
      repeat (first | refine Q_nil ?_ | (apply Q_plain; first | (apply Q_go; first | refine qP ?_ | refine qPg ?_) | refine qY ?_) | (apply Q_guarded; first | (apply Q_go; first | refine qPG ?_ | refine qPgG ?_) | refine qG ?_))
      refine qY (v := .bool ba) ?_ (hy := fun w hw => y_l1b (i := 1) hw rfl rfl (getBool hba))
      repeat (first | refine Q_nil ?_ | (apply Q_plain; first | (apply Q_go; first | refine qP ?_ | refine qPg ?_) | refine qY ?_) | (apply Q_guarded; first | (apply Q_go; first | refine qPG ?_ | refine qPgG ?_) | refine qG ?_))
      refine qY (v := .bool bb) ?_ (hy := fun w hw => y_l1b (i := 1) hw rfl rfl (getBool hbb))
      repeat (first | refine Q_nil ?_ | (apply Q_plain; first | (apply Q_go; first | refine qP ?_ | refine qPg ?_) | refine qY ?_) | (apply Q_guarded; first | (apply Q_go; first | refine qPG ?_ | refine qPgG ?_) | refine qG ?_))
      refine qY (v := .bool (ba != bb)) ?_ (hy := fun w hw => y_neqlb Tryz.underlying4 rfl rfl)
      repeat (first | refine Q_nil ?_ | (apply Q_plain; first | (apply Q_go; first | refine qP ?_ | refine qPg ?_) | refine qY ?_) | (apply Q_guarded; first | (apply Q_go; first | refine qPG ?_ | refine qPgG ?_) | refine qG ?_))
      clear hw
      intro w hw
      refine W_cond rfl (fun h3 => ?_) (fun h3 => ?_)
      · repeat (first | refine byW ?_ | (refine byV ?_; intro w hw))
        refine W_mix1 [.blk b13 _] (.blk b10 _ :: .own _ _ _ _ :: .blk b1 _ :: S) [[],[],[],[],[],[0],[],[0]] [[],[],[],[],[],[0],[],[0]] hw ?_
        repeat (first | refine mY ?_ | refine mP ?_ | refine mPg ?_)
        refine mStoreC (o := 0 + x.A.toNat * 1) (ho := by simp; omega) ?_
        repeat (first | refine mY ?_ | refine mP ?_ | refine mPg ?_)
        refine mStoreC (o := 0 + x.B.toNat * 1) (ho := by
          show _ ≤ (putCells (R2.map Value.bool).toArray (0 + x.A.toNat * 1) [.bool true]).size
          rw [putBool (by omega)]; simp; omega) ?_
        refine mEnd0 ?_
        clear hw
        intro w hw
        have hw : Wd Γ ([.blk b13 (.cells (enc x).toArray 56)] ++ ((.blk b10 (.cells (putCells (putCells (R2.map Value.bool).toArray (0 + x.A.toNat * 1) [.bool true]) (0 + x.B.toNat * 1) [.bool true]) 128) :: .own (.slice q m d) 3 1 (intRows (usedN H)) :: .blk b1 (.cells #[.string H.Name, .slice a1 n1 c1, .slice a2 n2 c2, .slice a3 n3 c3, .slice a4 n4 c4, .slice a5 n5 c5] 28) :: S) ++ [])) w := hw
        rw [putBool (by omega), putBool (by simp; omega), List.append_nil] at hw
        have hw : Wd Γ (.blk b10 (.cells (((R2.set x.A.toNat true).set x.B.toNat true).map Value.bool).toArray 128) :: .own (.slice q m d) 3 1 (intRows (usedN H)) :: .blk b1 (.cells #[.string H.Name, .slice a1 n1 c1, .slice a2 n2 c2, .slice a3 n3 c3, .slice a4 n4 c4, .slice a5 n5 c5] 28) :: S) w := hw.drop
        repeat (first | refine byW ?_ | (refine byV ?_; intro w hw))
        have hne : ba ≠ bb := by cases ba <;> cases bb <;> simp_all
        have hRA : Reach H.Links s0 x.A ∧ Reach H.Links s0 x.B := by
          have hxm := List.mem_of_getElem? hx
          cases ba with
          | true =>
            obtain ⟨n, hn, hn0, hr⟩ := hkn.ok _ hba
            have : n = x.A := by omega
            subst this
            exact ⟨hr, .ab hxm hr⟩
          | false =>
            have : bb = true := by cases bb <;> simp_all
            subst this
            obtain ⟨n, hn, hn0, hr⟩ := hkn.ok _ hbb
            have : n = x.B := by omega
            subst this
            exact ⟨.ba hxm hr, hr⟩
        have hc2 : 2 * ((R2.set x.A.toNat true).set x.B.toNat true).count false + 2 ≤ 2 * R2.count false := by
          cases ba with
          | false =>
            have h1 := count_set_lt hba
            have h2 := count_set_le (R := R2.set x.A.toNat true) (k := x.B.toNat)
            omega
          | true =>
            have h5 : bb = false := by cases bb <;> simp_all
            subst h5
            have h6 : x.A.toNat ≠ x.B.toNat := fun e => by rw [e, hbb] at hba; cases hba
            have h1 := count_set_lt (R := R2.set x.A.toNat true) (k := x.B.toNat) (by rw [List.getElem?_set_ne h6]; exact hbb)
            have h2 := count_set_le (R := R2) (k := x.A.toNat)
            omega
        refine ⟨μ2 - 1, by omega, k + 1, _, true, by omega, (hkn.set hA0 hRA.1).set hB0 hRA.2, ?_, by simp; omega, (fun h => by cases h), ⟨rfl, rfl, rfl, rfl, rfl, rfl, rfl, trivial⟩, hw⟩
        rw [List.getElem?_set, List.getElem?_set]
        split
        · simp; omega
        · split
          · simp; omega
          · exact hR0
      · have hab : ba = bb := by cases ba <;> cases bb <;> simp_all
        repeat (first | refine byW ?_ | (refine byV ?_; intro w hw))
        refine ⟨μ2 - 1, by omega, k + 1, R2, ch, by omega, hkn, hR0, hcnt2, fun hc i l hi hl => ?_, ⟨rfl, rfl, rfl, rfl, rfl, rfl, rfl, trivial⟩, hw.drop⟩
        by_cases e : i = k
        · subst e; rw [hx] at hl; cases hl
          rw [List.getD_eq_getElem?_getD, List.getD_eq_getElem?_getD, hba, hbb, hab]
        · exact hcl hc i l (by omega) hl
    · have hkn3 : ¬ k < n3 := by simpa using h2
      repeat (first | refine byW ?_ | (refine byV ?_; intro w hw))
      refine ⟨μ - 1, by rw [if_pos rfl] at hμ; omega, R2, ch, by rw [if_pos rfl] at hμ; omega, hkn, hR0, fun hc l hl => ?_, ⟨rfl, rfl, rfl, rfl, trivial⟩, hw⟩
      obtain ⟨i, hi, he⟩ := List.getElem_of_mem hl
      exact hcl hc i l (by omega) (by rw [List.getElem?_eq_getElem hi, he])
  · subst h
    have hcl := hcl rfl
    clear hμ
    have hiff : ∀ n ∈ usedN H, (R.getD n.toNat false = true ↔ Reach H.Links s0 n) := fun n hn => known_iff hkn hR0 hs1 hLk hcl (hNd n hn)
    repeat (first | refine byW ?_ | (refine byV ?_; intro w hw))
    refine W_loop (fun μ ρ w => ∃ (k : Nat), μ + k = m ∧ (∀ (i : Nat) (n : Int), i < k → (usedN H)[i]? = some n → R.getD n.toNat false = true) ∧ Has ρ [(10, .pointer (some ⟨b10, 0, none⟩)), (83, .slice q m d), (84, .int .i64 m), (85, .int .i64 k)] ∧ Wd Γ (.blk b10 (.cells ((R).map Value.bool).toArray 128) :: .own (.slice q m d) 3 1 (intRows (usedN H)) :: .blk b1 (.cells #[.string H.Name, .slice a1 n1 c1, .slice a2 n2 c2, .slice a3 n3 c3, .slice a4 n4 c4, .slice a5 n5 c5] 28) :: S) w) m ⟨0, by omega, fun i n h => by omega, ⟨rfl, rfl, rfl, rfl, trivial⟩, hw⟩ ?_
    clear hw
    rintro μ ρ w ⟨k, hk, hall, hρ, hw⟩
    rw [hρ.eq]
    repeat (first | refine byW ?_ | (refine byV ?_; intro w hw))
    refine W_cond rfl (fun h2 => ?_) (fun h2 => ?_)
    · have hkm : k < m := by simpa using h2
      obtain ⟨x, hx⟩ := get_lt (l := usedN H) (k := k) (by omega)
      obtain ⟨hx0, hx1⟩ := hNd x (List.mem_of_getElem? hx)
      obtain ⟨bx, hbx⟩ := get_lt (l := R) (k := x.toNat) (by omega)
      have hg : R.getD x.toNat false = bx := by rw [List.getD_eq_getElem?_getD, hbx]; rfl
      repeat (first | refine byW ?_ | (refine byV ?_; intro w hw))
      refine lY (v := .bool bx) ?_ (hy := y_l1b (i := 0) hw rfl rfl (getBool hbx))
      repeat (first | refine byW ?_ | (refine byV ?_; intro w hw))
      refine W_cond rfl (fun h3 => ?_) (fun h3 => ?_)
      · have h3 : bx = false := by simpa using h3
        repeat (first | refine byW ?_ | (refine byV ?_; intro w hw))
        refine ⟨_, rfl, ret_b rfl ?_, hw.drop.drop.drop⟩
        refine (decP_f fun hP => ?_).symm
        have h4 := (hiff x (List.mem_of_getElem? hx)).2 (by rw [← head_used hs0]; exact hP x (List.mem_of_getElem? hx))
        rw [hg, h3] at h4; cases h4
      · have h3 : bx = true := by simpa using h3
        repeat (first | refine byW ?_ | (refine byV ?_; intro w hw))
        exact ⟨μ - 1, by omega, k + 1, by omega, all_step (p := fun n : Int => R.getD n.toNat false) hall hx (hg.trans h3), ⟨rfl, rfl, rfl, rfl, trivial⟩, hw⟩
    · have hkm : ¬ k < m := by simpa using h2
      repeat (first | refine byW ?_ | (refine byV ?_; intro w hw))
      refine ⟨_, rfl, ret_b rfl ?_, hw.drop.drop.drop⟩
      refine (decP_t fun n hn => ?_).symm
      rw [head_used hs0]
      obtain ⟨i, hi, he⟩ := List.getElem_of_mem hn
      exact (hiff n hn).1 (hall i n (by omega) (by rw [List.getElem?_eq_getElem hi, he]))
end Go.Proofs.YteiijmclobggjaaGreat
end
/- Validate: the first error of a description. -/
section
open Go Mk
namespace Go.Proofs.YteiijmclobggjaaGreat
set_option maxHeartbeats 8000000
attribute [local irreducible] Calls
noncomputable def validS (H : HwT) : Int :=
  if namesB H = false then 63 else if countsB H = false then 15 else if (coresRB H && regionsRB H) = false then 6 else if alignRB H = false then 59
  else if uniqueB H = false then 56 else if knownB H = false then 57 else if hierB H = false then 73 else if disjB H = false then 7 else if connB H = false then 60 else 0
instance pg_Validate {Γ : Gho} {u : Value} {H : HwT} [hh : HwR Γ u H] : PG Tryz.prog Γ 28 [u] (.int .i64 (validS H)) := ⟨fun S w hw => by
  obtain ⟨a1, n1, c1, a2, n2, c2, a3, n3, c3, a4, n4, c4, a5, n5, c5, cs, hu, -⟩ := hh.h
  subst hu
  refine calls_of_W Tryz.func28 rfl rfl ?_
  repeat (first | refine byW ?_ | (refine byV ?_; intro w hw))
  refine lBox ?_
  intro b1 w hw
  have hw : Wd Γ (.blk b1 (hwC H a1 n1 c1 a2 n2 c2 a3 n3 c3 a4 n4 c4 a5 n5 c5) :: S) w := hw
  unfold validS
  repeat (first | refine byW ?_ | (refine byV ?_; intro w hw))
  refine W_cond rfl (fun h => ?_) (fun h => ?_)
  · rw [if_pos (by simpa using h)]
    repeat (first | refine byW ?_ | (refine byV ?_; intro w hw))
    exact ⟨_, rfl, rfl, hw.drop⟩
  rw [if_neg (by simpa using h)]
  clear h
  repeat (first | refine byW ?_ | (refine byV ?_; intro w hw))
  refine W_cond rfl (fun h => ?_) (fun h => ?_)
  · rw [if_pos (by simpa using h)]
    repeat (first | refine byW ?_ | (refine byV ?_; intro w hw))
    exact ⟨_, rfl, rfl, hw.drop⟩
  have hcnt : countsB H = true := by simpa using h
  rw [if_neg (by simpa using h)]
  clear h
  repeat (first | refine byW ?_ | (refine byV ?_; intro w hw))
  refine W_cond rfl (fun h => ?_) (fun h => ?_)
  · have h : (!coresRB H || !regionsRB H) = true := h
    rw [if_pos (by revert h; cases coresRB H <;> cases regionsRB H <;> simp)]
    repeat (first | refine byW ?_ | (refine byV ?_; intro w hw))
    exact ⟨_, rfl, rfl, hw.drop⟩
  have h : (!coresRB H || !regionsRB H) = false := h
  rw [← Bool.not_and] at h
  have h : (coresRB H && regionsRB H) = true := by simpa using h
  rw [if_neg (by rw [h]; simp)]
  rw [Bool.and_eq_true] at h
  obtain ⟨hcr, hrr⟩ := h
  repeat (first | refine byW ?_ | (refine byV ?_; intro w hw))
  refine W_cond rfl (fun h => ?_) (fun h => ?_)
  · rw [if_pos (by simpa using h)]
    repeat (first | refine byW ?_ | (refine byV ?_; intro w hw))
    exact ⟨_, rfl, rfl, hw.drop⟩
  rw [if_neg (by simpa using h)]
  clear h
  repeat (first | refine byW ?_ | (refine byV ?_; intro w hw))
  refine lCall ?_
  refine (unique_any hcnt hw).mono ?_
  rintro r w ⟨rfl, hw⟩
  refine ⟨_, rfl, ?_⟩
  repeat (first | refine byW ?_ | (refine byV ?_; intro w hw))
  refine W_cond rfl (fun h => ?_) (fun h => ?_)
  · rw [if_pos (by simpa using h)]
    repeat (first | refine byW ?_ | (refine byV ?_; intro w hw))
    exact ⟨_, rfl, rfl, hw.drop⟩
  rw [if_neg (by simpa using h)]
  clear h
  repeat (first | refine byW ?_ | (refine byV ?_; intro w hw))
  refine W_cond rfl (fun h => ?_) (fun h => ?_)
  · rw [if_pos (by simpa using h)]
    repeat (first | refine byW ?_ | (refine byV ?_; intro w hw))
    exact ⟨_, rfl, rfl, hw.drop⟩
  rw [if_neg (by simpa using h)]
  clear h
  repeat (first | refine byW ?_ | (refine byV ?_; intro w hw))
  refine W_cond rfl (fun h => ?_) (fun h => ?_)
  · rw [if_pos (by simpa using h)]
    repeat (first | refine byW ?_ | (refine byV ?_; intro w hw))
    exact ⟨_, rfl, rfl, hw.drop⟩
  rw [if_neg (by simpa using h)]
  clear h
  repeat (first | refine byW ?_ | (refine byV ?_; intro w hw))
  refine lCall ?_
  refine (disjoint_any hcnt hw).mono ?_
  rintro r w ⟨rfl, hw⟩
  refine ⟨_, rfl, ?_⟩
  repeat (first | refine byW ?_ | (refine byV ?_; intro w hw))
  refine W_cond rfl (fun h => ?_) (fun h => ?_)
  · rw [if_pos (by simpa using h)]
    repeat (first | refine byW ?_ | (refine byV ?_; intro w hw))
    exact ⟨_, rfl, rfl, hw.drop⟩
  rw [if_neg (by simpa using h)]
  clear h
  repeat (first | refine byW ?_ | (refine byV ?_; intro w hw))
  refine lCall ?_
  refine (connected_any hcnt hcr hrr hw).mono ?_
  rintro r w ⟨rfl, hw⟩
  refine ⟨_, rfl, ?_⟩
  repeat (first | refine byW ?_ | (refine byV ?_; intro w hw))
  refine W_cond rfl (fun h => ?_) (fun h => ?_)
  · rw [if_pos (by simpa using h)]
    repeat (first | refine byW ?_ | (refine byV ?_; intro w hw))
    exact ⟨_, rfl, rfl, hw.drop⟩
  rw [if_neg (by simpa using h)]
  repeat (first | refine byW ?_ | (refine byV ?_; intro w hw))
  exact ⟨_, rfl, rfl, hw.drop⟩⟩
end Go.Proofs.YteiijmclobggjaaGreat
end
/- Two descriptions are compared (loops printed by a program). -/
section
open Go Mk
namespace Go.Proofs.YteiijmclobggjaaGreat
set_option maxHeartbeats 8000000
attribute [local irreducible] Calls
theorem eq_of_all {α : Type} {xs ys : List α} {k : Nat} (hl : xs.length = ys.length) (hk : xs.length ≤ k) (h : ∀ (i : Nat) (x y : α), i < k → xs[i]? = some x → ys[i]? = some y → x = y) : xs = ys := by
  apply List.ext_getElem? 
  intro i
  by_cases hi : i < xs.length
  · obtain ⟨x, hx⟩ := get_lt hi
    obtain ⟨y, hy⟩ := get_lt (l := ys) (k := i) (by omega)
    rw [hx, hy, h i x y (by omega) hx hy]
  · rw [List.getElem?_eq_none (by omega), List.getElem?_eq_none (by omega)]
theorem eq_step {α : Type} {xs ys : List α} {k : Nat} {x y : α} (h : ∀ (i : Nat) (x y : α), i < k → xs[i]? = some x → ys[i]? = some y → x = y) (hx : xs[k]? = some x) (hy : ys[k]? = some y) (e : x = y) : ∀ (i : Nat) (x y : α), i < k + 1 → xs[i]? = some x → ys[i]? = some y → x = y := fun i a b hi ha hb => by
  by_cases q : i = k
  · subst q; rw [hx] at ha; rw [hy] at hb; cases ha; cases hb; exact e
  · exact h i a b (by omega) ha hb
end Go.Proofs.YteiijmclobggjaaGreat
end
/- The program's parser: Parse, which recovers what the parser throws. -/
section
open Go Mk
namespace Go.Proofs.YteiijmclobggjaaGreat
set_option maxHeartbeats 4000000
attribute [local irreducible] Calls
/-- A description in a variable that a function answers. -/
abbrev hwZ : List Value := [.string ⟨#[]⟩, .slice none 0 0, .slice none 0 0, .slice none 0 0, .slice none 0 0, .slice none 0 0]
section
variable {Γ : Gho} {S : List Res} {w : World} {b2 b3 b4 : Nat} {h0 : Array Value} {p0 : PosT} {e0 : Int}
end
section
variable {Γ : Gho} {S : List Res} {w : World}
end
end Go.Proofs.YteiijmclobggjaaGreat
end
/- The sanity check of the chapter: its examples. -/
section
open Go Mk
namespace Go.Proofs.YteiijmclobggjaaGreat
set_option maxHeartbeats 8000000
attribute [local irreducible] Calls
theorem HwOut.freeze {Γ : Gho} {S : List Res} {w : World} {H : HwT} {u : Value} (h : HwOut Γ H S u w) (hsz : HwSz H) : ∃ Γ', Γ.le Γ' ∧ HwR Γ' u H ∧ Wd Γ' S w := by
  obtain ⟨v1, v2, v3, v4, v5, cs, hcs, hok, rfl, hw⟩ := h
  obtain ⟨a1, n1, c1, rfl, -, -, -⟩ := hw.own_shape (i := 0) rfl
  obtain ⟨a2, n2, c2, rfl, -, -, -⟩ := hw.own_shape (i := 1) rfl
  obtain ⟨a3, n3, c3, rfl, -, -, -⟩ := hw.own_shape (i := 2) rfl
  obtain ⟨a4, n4, c4, rfl, -, -, -⟩ := hw.own_shape (i := 3) rfl
  obtain ⟨a5, n5, c5, rfl, -, -, -⟩ := hw.own_shape (i := 4) rfl
  obtain ⟨Γ1, e1, r1, hw⟩ := hw.freeze
  obtain ⟨Γ2, e2, r2, hw⟩ := hw.freeze
  obtain ⟨Γ3, e3, r3, hw⟩ := hw.freeze
  obtain ⟨Γ4, e4, r4, hw⟩ := hw.freeze
  obtain ⟨Γ5, e5, r5, hw⟩ := hw.freeze
  have f4 := e5
  have f3 := e4.trans f4
  have f2 := e3.trans f3
  have f1 := e2.trans f2
  exact ⟨Γ5, e1.trans f1, ⟨_, _, _, _, _, _, _, _, _, _, _, _, _, _, _, cs, rfl, hcs, fun c hc => (hok c hc).mono (e1.trans f1), hsz, r1.mono f1, r2.mono f2, r3.mono f3, r4.mono f4, r5⟩, hw⟩
def hw1 : HwT := ⟨⟨#[109]⟩, [⟨0, 32, 0, 1⟩], [], [], [], []⟩
def hw2 : HwT := ⟨⟨#[109]⟩, [⟨0, 33, 0, 1⟩], [], [], [], []⟩
theorem sz2 : HwSz hw2 := by unfold HwSz maxS; decide
end Go.Proofs.YteiijmclobggjaaGreat
end
/- From a walk in these words to the given form of a statement; given lists of numbers, as the walk reads them. -/
section
open Go Mk
namespace Go.Proofs.YteiijmclobggjaaGreat
open Go.ChangeShapes Go.WideShapes Go.ChangeAt Go.RowKit

theorem own_knob : ownKnob Tryz.prog.godebug = none := by kernel_rfl
theorem keptBut_wd {W W' : World} {S : List Res} (h : Wd (allG W) S W') (may : MemPlace → Prop) : W.keptBut W' may := by
  refine ⟨h.os, h.out, fun i hi => ?_⟩
  have h1 : W.heap[i]? = some W.heap[i] := Array.getElem?_eq_getElem hi
  have h2 := h.imm i W.heap[i] h1
  rw [h1, h2]
  cases W.heap[i] <;> simp
/-- The arguments read as before; what is answered is true. -/
theorem post_wd {H : Type} {enc : TypeId × Value → H} {f : Func} {s : ChangeSpec} {W W' : World} {S : List Res} {args : Array Value} {v : Value} {ds gs : List (DataW H)} {before pa pv : List MemPlace} {apart : Bool}
    (hW : DataW.Whole enc Tryz.prog f.params.toList s.vars apart W args.toList ds gs before)
    (hres : ∀ (b : Nat) (sp : Nat → Bool) (hd : Bool), DataW.TrodAll enc Tryz.prog W' b sp hd f.resultTypes.toList (v.resultList f.resultTypes.size) (s.fn H (ds ++ gs)).results [])
    (hargs : ∀ sp : Nat → Bool, (∀ p ∈ before, sp p.block = true) → DataW.TrodAll enc Tryz.prog W' 0 sp true f.params.toList args.toList (s.fn H (ds ++ gs)).args pa)
    (hvars : ∀ sp : Nat → Bool, (∀ p ∈ before, sp p.block = true) → DataW.TrodVars enc Tryz.prog W' sp s.vars (s.fn H (ds ++ gs)).vars pv)
    (hps : before = pa ++ pv) (hk : Wd (allG W) S W') : s.post enc Tryz.prog f apart true false false W args v W' := by
  have hold : ∀ p ∈ before, (fun b => decide (b < W.heap.size)) p.block = true := fun p hp => by simpa using hW.lt p hp
  exact ⟨ds, gs, before, [], pa, pv, hW, hres _ _ _, hargs _ hold, hvars _ hold, keptBut_wd hk _, fun h => by cases h⟩
theorem wd_back {Γ Γ' : Gho} {w : World} (hle : Γ.le Γ') (h : Wd Γ' [] w) : Wd Γ [] w := by
  obtain ⟨h1, h2, h3, h4, h5, -⟩ := h
  exact ⟨h1.trans hle.os, h2.trans hle.tape, h3.trans hle.out, by rw [← hle.dr]; exact h4, fun b o hb => h5 b o (hle.imm b o hb), [], trivial, by simp, by simp⟩
section
variable {H : Type} {en : TypeId × Value → H} {W W' : World} {base : Nat} {sp : Nat → Bool} {held : Bool} {S : List Res}
theorem flat_inv {sz : Nat} : ∀ {rows : List (List Value)}, (∀ r ∈ rows, r.length = sz) → ∀ {j : Nat} {u : Value}, rows.flatten[j]? = some u → ∃ i r row, rows[i]? = some row ∧ row[r]? = some u ∧ j = i * sz + r
  | [], _, j, u, h => by simp at h
  | a :: rows, hl, j, u, h => by
    rw [List.flatten_cons] at h
    by_cases hj : j < a.length
    · rw [List.getElem?_append_left hj] at h
      exact ⟨0, j, a, rfl, h, by omega⟩
    · rw [List.getElem?_append_right (by omega)] at h
      obtain ⟨i, r, row, h1, h2, h3⟩ := flat_inv (fun r hr => hl r (List.mem_cons_of_mem _ hr)) h
      have ha := hl a (List.mem_cons_self ..)
      refine ⟨i + 1, r, row, by simpa using h1, h2, ?_⟩
      rw [Nat.add_mul, Nat.one_mul]; omega
theorem read_ints {n : Nat} {v : Value} {y : DataW H × List MemPlace} (h : DataW.trod en Tryz.prog W base sp held n 29 [v] = some y) : ∃ xs : List Int, RepS (allG W) v 1 (intRows xs) := by
  have hc : Tryz.prog.cellsOf 3 = 1 := by kernel_rfl
  rcases Deep.open_slice Tryz.underlying29 h with ⟨h0, -⟩ | ⟨a, len, cap, m, k, D, Pl, h0, -, hlc, hcm, hm, -, hel⟩
  · cases h0
    refine ⟨[], ?_⟩
    unfold RepS intRows
    exact ⟨by simp, none, 0, 0, rfl, rfl, by omega, Nat.zero_le _, fun hh => by simp at hh⟩
  · cases h0
    have hlm : len ≤ m := by rw [hm]; split <;> omega
    have hx : ∀ i, i < len → ∃ s : Int, ∀ j u, [Value.int .i64 s][j]? = some u → W.cell? (a.add (i * 1 + j)) = some u := fun i hi => by
      obtain ⟨cs', h1, h2⟩ := hel i (by omega)
      rw [hc] at h1
      obtain ⟨-, hl, hat⟩ := World.cells?_some h1
      obtain ⟨s, rfl, -⟩ := DataW.trod_int Tryz.underlying3 h2
      refine ⟨s, fun j u hu => ?_⟩
      have hj : j < 1 := by rw [← hl]; exact (List.getElem?_eq_some_iff.1 hu).1
      have := hat j hj
      rw [hu, Go.Deep.add_add] at this
      exact this
    have : ∃ f : Nat → Int, ∀ i, i < len → ∀ j u, [Value.int .i64 (f i)][j]? = some u → W.cell? (a.add (i * 1 + j)) = some u := by
      have dflt : Int := 0
      refine ⟨fun i => if hi : i < len then (hx i hi).choose else dflt, fun i hi => ?_⟩
      simp only [hi, dif_pos]
      exact (hx i hi).choose_spec
    obtain ⟨f, hf⟩ := this
    refine ⟨(List.range len).map f, ?_⟩
    unfold RepS intRows
    refine ⟨fun r hr => ?_, some a, len, cap, rfl, by simp, hlc, hcm, fun hpos => ?_⟩
    · obtain ⟨s, -, rfl⟩ := List.mem_map.1 hr
      rfl
    · have hpos : 0 < len := by simpa using hpos
      have h00 := hf 0 hpos 0 (.int .i64 (f 0)) rfl
      obtain ⟨g, o, spt⟩ := a
      have h01 : W.cell? ⟨g, o + 0, spt⟩ = some (.int .i64 (f 0)) := h00
      unfold World.cell? at h01
      cases hg : W.heap[g]? with
      | none => rw [hg] at h01; simp at h01
      | some ob =>
        rw [hg] at h01
        cases ob with
        | cells cur e fr =>
          cases spt with
          | some q => simp at h01
          | none =>
            refine ⟨g, o, cur, e, fr, rfl, hg, fun j u hj => ?_⟩
            obtain ⟨i, r, row, h1, h2, h3⟩ := flat_inv (sz := 1) (rows := ((List.range len).map f).map fun x => [Value.int .i64 x]) (fun r hr => by
              obtain ⟨s, -, rfl⟩ := List.mem_map.1 hr
              rfl) hj
            rw [List.getElem?_map, List.getElem?_map] at h1
            have hi : i < len := by
              by_cases hi : i < len
              · exact hi
              · rw [List.getElem?_eq_none (by simpa using hi)] at h1; simp at h1
            rw [List.getElem?_range hi] at h1
            simp only [Option.map_some, Option.some.injEq] at h1
            subst h1
            have h4 : W.cell? ⟨g, o + (i * 1 + r), none⟩ = some u := by
              have h5 := hf i hi r u h2
              rwa [show Addr.add ⟨g, o, none⟩ (i * 1 + r) = ⟨g, o + (i * 1 + r), none⟩ from by
                unfold Addr.add
                by_cases h0 : i * 1 + r = 0
                · rw [if_pos h0, h0]; rfl
                · rw [if_neg h0]] at h5
            unfold World.cell? at h4
            rw [hg] at h4
            rw [h3]
            simpa using h4
        | _ => simp at h01
theorem carry_all (hk : Wd (allG W) S W') : ∀ {ts : List TypeId} {vs : List Value} {ds : List (DataW H)} {ps : List MemPlace}, DataW.TrodAll en Tryz.prog W base sp held ts vs ds ps → (∀ p ∈ ps, p.block < W.heap.size) → DataW.TrodAll en Tryz.prog W' base sp held ts vs ds ps
  | [], [], [], _, h, _ => h
  | _ :: _, _ :: _, _ :: _, _, ⟨p, q, ⟨n, h1⟩, h2, e⟩, hs => ⟨p, q, ⟨n, DataW.trod_carry n _ _ _ h1 fun x hx => by
      have hb := hs x (by rw [e]; exact List.mem_append_left _ hx)
      cases x with
      | cell b off =>
        have h3 : W'.heap[b]? = W.heap[b]? := by
          have h4 : W.heap[b]? = some (W.heap[b]'hb) := Array.getElem?_eq_getElem hb
          rw [h4]; exact hk.imm b _ h4
        show W'.cell? _ = W.cell? _
        unfold World.cell?
        rw [h3]
      | map b =>
        have h4 : W.heap[b]? = some (W.heap[b]'hb) := Array.getElem?_eq_getElem hb
        show W'.heap[b]? = W.heap[b]?
        rw [h4]; exact hk.imm b _ h4⟩, carry_all hk h2 (fun x hx => hs x (by rw [e]; exact List.mem_append_right _ hx)), e⟩
end
theorem own_kids : Kids Tryz.prog (· < Tryz.prog.types.size) := kids_rows (by kernel_rfl) (by kernel_rfl)
theorem own_full : ∀ t e, t < Tryz.prog.types.size → Tryz.prog.underlying t = some (.slice e) → 0 < Tryz.prog.cellsOf e := slices_full_of _ (by kernel_rfl)
end Go.Proofs.YteiijmclobggjaaGreat
end
/- A field of an element of an owned slice is written. -/
section
open Go
namespace Mk
section
variable {P : Program} {n : Nat} {opa : Array Oper} {Γ : Gho} {S : List Res} {QQ : Exit → Fr → World → Prop} {K : Value → World → Prop} {ρ : Fr} {w : World} {rest : List Oper} {sz : Nat} {rows : List (List Value)}
variable {d : Option Tmp} {T U ty : TypeId} {pos : String} {es : Array Edge} {g : Option (Nat × Bool)} {x y z : Operand} {v : Value}
end
end Mk
end
/- Drawn regions: steps that change one or two cells; cells of which only a relation is known. -/
section
open Go
namespace Mk
attribute [local irreducible] Calls
theorem W_cutT {P : Program} {n : Nat} {c : Code} {K : Fr → World → Prop} {Q : Exit → Fr → World → Prop} {ρ : Fr} {w : World} (I : Fr → World → Prop) (h1 : W P n c (Then I Q) ρ w) (h2 : ∀ ρ w, I ρ w → K ρ w) : W P n c (Then K Q) ρ w :=
  h1.mono fun e ρ w h => by
    cases e with
    | normal => exact h2 ρ w h
    | _ => exact h
section
variable {P : Program} {n : Nat} {ops : List Oper} {Γ : Gho} {K : List Res} {wr tc stab : List (List Nat)} {Q : Fr → World → Prop} {i : Nat} {rest : List Oper} {ρ : Fr} {w : World} {M : Nat → Fr → List Res} {v : Value} {T T' : Type} {o : Oper}
variable {ty : TypeId} {pos : String} {es : Array Edge}
theorem ml1 {a b d : Fr → List Res} : ML [a, b, d] 1 = b := rfl
theorem ml2 {a b d : Fr → List Res} : ML [a, b, d] 2 = d := rfl
/-- A step that changes the cell c. -/
theorem mS {c : Nat} {F : Fr → List Res} (F' : Fr → List Res)
    (hs : ∀ g w Y, Wd Γ (F (ovr (stab.getD c []) g noFr) ++ (K ++ Y)) w → Step P o (ovr stab.flatten g ρ) w fun u w' => (freeD stab o.dst = false → u = v) ∧ Wd Γ (F' (ovr (stab.getD c []) (putO g o.dst u) noFr) ++ (K ++ Y)) w')
    (h : MSw (mV P n ops Γ K wr tc stab) Q (i + 1) rest ⟨putO ρ o.dst v, setC M c F'⟩) (hM : M c = F := by first | exact setC_self | exact ml1 | exact ml2 | exact ((setC_other (by decide)).trans setC_self) | exact ((setC_other (by decide)).trans ml2) | exact ((setC_other (by decide)).trans ((setC_other (by decide)).trans ml2)) | exact ((setC_other (by decide)).trans ((setC_other (by decide)).trans ((setC_other (by decide)).trans ml2))) | exact ((setC_other (by decide)).trans ((setC_other (by decide)).trans setC_self)) | exact rfl) (hw0 : wr.getD i [] = [c] := by exact rfl) (ht : tc.getD i [] = [c] := by exact rfl) (hg : o.guard = none := by exact rfl) :
    MSw (mV P n ops Γ K wr tc stab) Q i (o :: rest) ⟨ρ, M⟩ := by
  refine mM _ (fun Y w g hw => ?_) h hw0 hg
  rw [cells1 ht, hM] at hw
  refine (hs g w Y hw.swapApp).mono ?_
  rintro u w' ⟨h2, h3⟩
  refine ⟨?_, h2⟩
  rw [cells1 ht, setC_self]
  exact h3.swapApp
end
end Mk
end
/- Calls that read what is owned and change nothing. -/
section
open Go
namespace Mk
attribute [local irreducible] Calls
class PS (P : Program) (Γ : Gho) (S : List Res) (f : Nat) (args : List Value) (v : outParam Value) : Prop where
  h : ∀ Y w, Wd Γ (S ++ Y) w → Calls P f args.toArray w fun e w' => e = .returned v ∧ Wd Γ (S ++ Y) w'
section
variable {P : Program} {n : Nat} {ops : List Oper} {opa : Array Oper} {Γ : Gho} {S K : List Res} {Q : Fr → World → Prop} {QQ : Exit → Fr → World → Prop} {ρ : Fr} {w : World} {rest : List Oper} {wr tc stab : List (List Nat)} {i : Nat} {M : Nat → Fr → List Res}
variable {d : Option Tmp} {ty : TypeId} {pos : String} {es : Array Edge} {v : Value} {f : Nat} {args : List Operand} {tys : Array TypeId} {vs : List Value} {j dj : Nat} {want c : Bool} {g : Option (Nat × Bool)}
end
end Mk
end
/- Slices made by 'make'. -/
section
open Go
namespace Mk
attribute [local irreducible] Calls
theorem made_rows {zs : List Value} {sz : Nat} (hz : zs.length = sz) (h0 : 0 < sz) : ∀ n : Nat, (madeCells zs.toArray (n * sz)).toList = (List.replicate n zs).flatten := fun n => by
  unfold madeCells
  simp only [Array.toList_map, Array.toList_range, List.size_toArray, hz]
  have hf : ∀ i : Nat, zs.toArray[i % sz]! = zs.getD (i % sz) undef := fun i => by
    have hlt : i % sz < zs.length := by rw [hz]; exact Nat.mod_lt _ h0
    rw [getElem!_pos (zs.toArray) _ (by simpa using hlt)]
    simp [List.getD_eq_getElem?_getD, List.getElem?_eq_getElem hlt]
  simp only [hf]
  induction n with
  | zero => simp
  | succ n ih =>
    rw [show (n + 1) * sz = sz + n * sz from by rw [Nat.add_mul]; omega, List.range_add, List.map_append, List.map_map, List.replicate_succ, List.flatten_cons, ← ih]
    congr 1
    · refine List.ext_getElem? fun i => ?_
      rw [List.getElem?_map]
      by_cases hi : i < sz
      · rw [List.getElem?_range hi]
        simp only [Option.map_some, Nat.mod_eq_of_lt hi]
        rw [List.getD_eq_getElem?_getD, List.getElem?_eq_getElem (by omega)]; rfl
      · rw [List.getElem?_eq_none (by simpa using hi), List.getElem?_eq_none (by omega)]; rfl
    · refine List.map_congr_left fun i _ => ?_
      simp
section
variable {P : Program} {n : Nat} {opa : Array Oper} {Γ : Gho} {S : List Res} {QQ : Exit → Fr → World → Prop} {ρ : Fr} {w : World} {rest : List Oper} {K : Value → World → Prop}
variable {d : Option Tmp} {T ty : TypeId} {pos : String} {es : Array Edge} {g : Option (Nat × Bool)} {x y : Operand}
theorem s_makeSlice {E by' len sz : Nat} {zs : List Value} [hT : TL P T E sz by' zs] (hw : Wd Γ S w) (hx : ev ρ x = .int .i64 (len : Nat)) (hy : ev ρ y = .int .i64 (len : Nat)) (hb : (by' : Int) * len ≤ 281474976710656) (h63 : (len : Int) ≤ 9223372036854775807)
    (hk : ∀ a w', Wd Γ (.own (.slice (some a) len len) E sz (List.replicate len zs) :: S) w' → K (.slice (some a) len len) w') : Step P ⟨d, .makeSlice T x y, ty, pos, es, g⟩ ρ w K := by
  obtain ⟨q, z, hq, hz, hzc⟩ := zeroOf_info hT.z
  obtain ⟨q', hq', hs, hb'⟩ := sizeBytes_info hT.s
  rw [hq] at hq'; cases hq'
  have hrun := run_make (P := P) w T E q z hT.h hq hz .i64 .i64 (len : Int) (len : Int) (by omega) (Int.le_refl _) (by rw [hb']; exact hb) h63
  rw [hzc, hs] at hrun
  have hr0 : (execOp (ev ρ) ⟨d, .makeSlice T x y, ty, pos, es, g⟩).run P w = .ok (.value (.slice (some ⟨w.heap.size, 0, none⟩) len len)) (w.alloc (.cells (madeCells zs.toArray (len * sz)) E)) := by
    simp only [execOp, hx, hy, Sem.run_bind, hrun, Result.andThen_ok, Int.toNat_natCast]
    rfl
  have hrows := made_rows hT.n.1 hT.n.2 len
  have hfin := hk ⟨w.heap.size, 0, none⟩ (w.alloc (.cells (madeCells zs.toArray (len * sz)) E)) (hw.add (bs := [w.heap.size]) ⟨rfl, rfl, rfl, (by first | exact Nat.le_refl _ | exact Nat.le_succ _), by simp⟩ (by
    unfold Res.own
    refine ⟨fun r hr => by rw [List.eq_of_mem_replicate hr]; exact hT.n.1, _, _, _, rfl, (by simp), Nat.le_refl _, by simp [maxLen]; omega, .inr ⟨w.heap.size, madeCells zs.toArray (len * sz), rfl, rfl, heap_alloc_new w _, size_madeCells _ _, ?_⟩⟩
    rw [hrows, List.take_of_length_le]
    rw [← hrows, Array.length_toList, size_madeCells]; exact Nat.le_refl _) (by simp) (by simp) fun k hk => heap_alloc_old w _ hk)
  unfold Step; rw [hr0]; exact hfin
theorem lMakeSlice {E by' len sz : Nat} {zs : List Value} [hT : TL P T E sz by' zs] (h : ∀ a w', Wd Γ (.own (.slice (some a) len len) E sz (List.replicate len zs) :: S) w' → L P n opa QQ rest (putO ρ d (.slice (some a) len len)) w')
    (hw : Wd Γ S w := by exact hw) (hx : ev ρ x = .int .i64 (len : Nat) := by exact rfl) (hy : ev ρ y = .int .i64 (len : Nat) := by exact rfl) (hb : (by' : Int) * len ≤ 281474976710656 := by omega) (h63 : (len : Int) ≤ 9223372036854775807 := by omega) (hd : okDst n d = true := by exact rfl) :
    L P n opa QQ (⟨d, .makeSlice T x y, ty, pos, es, none⟩ :: rest) ρ w := L_step rfl hd (s_makeSlice hw hx hy hb h63 h)
end
end Mk
end
/- Calls of function values in regions that own nothing, behind a guard. -/
section
open Go
namespace Mk
attribute [local irreducible] Calls
section
variable {P : Program} {n : Nat} {ops : List Oper} {Γ : Gho} {S : List Res} {Q : Fr → World → Prop} {ρ : Fr} {rest : List Oper}
variable {d : Option Tmp} {ty : TypeId} {pos : String} {es : Array Edge} {v : Value} {f t : Nat} {args : List Operand} {tys : Array TypeId} {vs : List Value} {j dj : Nat} {want c : Bool}
end
end Mk
end
/- Guards that are known, in drawn regions; calls under which all that was there stays. -/
section
open Go
namespace Mk
attribute [local irreducible] Calls
/-- A call that keeps all that was there keeps what is owned. -/
theorem wd_kept {Γ : Gho} {S : List Res} {w w' : World} (h : Wd Γ S w) (h' : Wd (allG w) [] w') : Wd Γ S w' := by
  obtain ⟨h1, h2, h3, h4, h5, bss, h6, h7, h8⟩ := h
  obtain ⟨k1, k2, k3, k4, k5, -⟩ := h'
  have hk : ∀ b ∈ bss.flatten, w'.heap[b]? = w.heap[b]? := fun b hb => by
    have hl := (h8 b hb).1
    have e : w.heap[b]? = some w.heap[b] := Array.getElem?_eq_getElem hl
    rw [e]; exact k5 b _ e
  refine ⟨k1.trans h1, k2.trans h2, k3.trans h3, Nat.le_trans h4 k4, fun b o hb => k5 b o (h5 b o hb), bss, Holds.loc (fun b o h => h) S bss (fun b hb => hk b hb) h6, h7, fun b hb => ⟨?_, (h8 b hb).2⟩⟩
  have hl := (h8 b hb).1
  have e : w.heap[b]? = some w.heap[b] := Array.getElem?_eq_getElem hl
  have := hk b hb
  rw [e] at this
  exact (Array.getElem?_eq_some_iff.1 this).1
theorem wd_less {Γ Γ' : Gho} {w : World} (hle : Γ.le Γ') (h : Wd Γ' [] w) : Wd Γ [] w := by
  obtain ⟨h1, h2, h3, h4, h5, -⟩ := h
  exact ⟨h1.trans hle.os, h2.trans hle.tape, h3.trans hle.out, by rw [← hle.dr]; exact h4, fun b o hb => h5 b o (hle.imm b o hb), [], trivial, by simp, by simp⟩
section
variable {P : Program} {n : Nat} {ops : List Oper} {Γ : Gho} {K : List Res} {wr tc stab : List (List Nat)} {Q : Fr → World → Prop} {i : Nat} {rest : List Oper} {ρ : Fr} {M : Nat → Fr → List Res}
variable {d : Option Tmp} {op : Op} {ty : TypeId} {pos : String} {es : Array Edge} {j dj : Nat} {want : Bool}
end
end Mk
end
/- Guards that are known to be false, in drawn regions; a negative number, wrapped. -/
section
open Go
namespace Mk
attribute [local irreducible] Calls
section
variable {P : Program} {n : Nat} {ops : List Oper} {Γ : Gho} {K : List Res} {wr tc stab : List (List Nat)} {Q : Fr → World → Prop} {i : Nat} {rest : List Oper} {ρ : Fr} {M : Nat → Fr → List Res}
variable {d : Option Tmp} {op : Op} {ty : TypeId} {pos : String} {es : Array Edge} {j dj : Nat} {want : Bool}
end
end Mk
end
/- A string is appended to owned bytes; a pointer is turned into an unsafe one and back; the string of some bytes. -/
section
open Go
namespace Mk
attribute [local irreducible] Calls
section
variable {P : Program} {Γ : Gho} {S : List Res} {w : World} {ρ : Fr} {K : Value → World → Prop} {d : Option Tmp} {T U ty : TypeId} {pos : String} {es : Array Edge} {g : Option (Nat × Bool)} {x y z : Operand}
end
end Mk
end
/- A call that changes one cell of a drawn region in a known way. -/
section
open Go
namespace Mk
attribute [local irreducible] Calls
section
variable {P : Program} {n : Nat} {ops : List Oper} {Γ : Gho} {K : List Res} {wr tc stab : List (List Nat)} {Q : Fr → World → Prop} {i : Nat} {rest : List Oper} {ρ : Fr} {M : Nat → Fr → List Res}
variable {d : Option Tmp} {ty : TypeId} {pos : String} {es : Array Edge} {f : Nat} {args : List Operand} {tys : Array TypeId} {vs : List Value} {v : Value}
theorem mCallS {c : Nat} {X : List Res} (X' : List Res) [FnOk P f] (hs : ∀ R w, Wd Γ (X ++ R) w → Calls P f vs.toArray w fun e w' => e = .returned v ∧ Wd Γ (X' ++ R) w')
    (h : MSw (mV P n ops Γ K wr tc stab) Q (i + 1) rest ⟨putO ρ d v, setC M c fun _ => X'⟩) (hM : M c = fun _ => X := by first | exact setC_self | exact ml1 | exact ml2 | exact rfl) (hw0 : wr.getD i [] = [c] := by exact rfl) (ht : tc.getD i [] = [c] := by exact rfl) (ha : ∀ g, EvL (ovr stab.flatten g ρ) args vs := by intro g; exact byEV) :
    MSw (mV P n ops Γ K wr tc stab) Q i (⟨d, .call { callee := .value (.func f), args := args.toArray, argTypes := tys }, ty, pos, es, none⟩ :: rest) ⟨ρ, M⟩ :=
  mS (F := fun _ => X) (fun _ => X') (fun g w Y hw => s_call (ha g).eqA ((hs _ w hw).mono fun e w' ⟨h1, h2⟩ => ⟨v, h1, fun _ => rfl, h2⟩)) h hM hw0 ht rfl
end
end Mk
end
/- A call in a drawn region that changes one cell, its answer held by an open slot. -/
section
open Go
namespace Mk
attribute [local irreducible] Calls
section
variable {P : Program} {n : Nat} {ops : List Oper} {Γ : Gho} {K : List Res} {wr tc stab : List (List Nat)} {Q : Fr → World → Prop} {i : Nat} {rest : List Oper} {ρ : Fr} {M : Nat → Fr → List Res}
variable {d : Option Tmp} {ty : TypeId} {pos : String} {es : Array Edge} {f : Nat} {args : List Operand} {tys : Array TypeId}
theorem mCallG {c : Nat} {F : Fr → List Res} (F' : Fr → List Res) (vs : Fr → List Value) [FnOk P f]
    (hs : ∀ g w Y, Wd Γ (F (ovr (stab.getD c []) g noFr) ++ (K ++ Y)) w → Calls P f (vs (ovr (stab.getD c []) g noFr)).toArray w fun e w' => ∃ u, e = .returned u ∧ Wd Γ (F' (ovr (stab.getD c []) (putO g d u) noFr) ++ (K ++ Y)) w')
    (h : MSw (mV P n ops Γ K wr tc stab) Q (i + 1) rest ⟨putO ρ d undef, setC M c F'⟩) (hM : M c = F := by first | exact setC_self | exact ml1 | exact ml2 | exact ((setC_other (by decide)).trans setC_self) | exact rfl) (hw0 : wr.getD i [] = [c] := by exact rfl) (ht : tc.getD i [] = [c] := by exact rfl) (hfr : freeD stab d = true := by exact rfl) (ha : ∀ g, EvL (ovr stab.flatten g ρ) args (vs (ovr (stab.getD c []) g noFr)) := by intro g; exact byEV) :
    MSw (mV P n ops Γ K wr tc stab) Q i (⟨d, .call { callee := .value (.func f), args := args.toArray, argTypes := tys }, ty, pos, es, none⟩ :: rest) ⟨ρ, M⟩ :=
  mS (v := undef) F' (fun g w Y hw => s_call (ha g).eqA ((hs g w Y hw).mono fun e w' ⟨u, h1, h2⟩ => ⟨u, h1, fun hh => (by rw [hfr] at hh; cases hh), h2⟩)) h hM hw0 ht rfl
end
end Mk
end
/- The check on a drawn region's text, with ancestors held as bits of a number: it serves long chains. -/
section
open Go
namespace Mk
end Mk
end
/- The reference's Validate: names, ranges, alignment (printed by a program). -/
section
open Go Mk
namespace Go.Proofs.YteiijmclobggjaaGreat
set_option maxHeartbeats 16000000
attribute [local irreducible] Calls
theorem dropG {α : Type} {l : List α} {k : Nat} {x : α} (h : l[k]? = some x) : l.drop k = x :: l.drop (k + 1) := by
  obtain ⟨hk, rfl⟩ := List.getElem?_eq_some_iff.1 h
  exact List.drop_eq_getElem_cons hk
theorem allD {α : Type} {p : α → Bool} {l : List α} {k : Nat} {x : α} (h : l[k]? = some x) : (l.drop k).all p = (p x && (l.drop (k + 1)).all p) := by rw [dropG h, List.all_cons]
theorem allE {α : Type} {p : α → Bool} {l : List α} {k : Nat} (h : l.length ≤ k) : (l.drop k).all p = true := by rw [List.drop_eq_nil_of_le h]; rfl
theorem SB_of {s : ByteArray} (h : s.size ≤ maxS) : SB s := ⟨h⟩
def inB (v lo hi : Int) : Bool := decide (lo ≤ v) && decide (v ≤ hi)
instance pc_in (v lo hi : Int) : PC Tryz.prog 74 [.int .i64 v, .int .i64 lo, .int .i64 hi] (.bool (inB v lo hi)) := ⟨fun w => by
  refine calls_of_W Tryz.func74 rfl rfl ?_
  repeat (first | refine byW ?_ | (refine byV ?_; intro w hw))
  exact ⟨_, rfl, rfl, rfl⟩⟩
instance pc_node (v : Int) : PC Tryz.prog 75 [.int .i64 v] (.bool (inB v 0 63)) := ⟨fun w => by
  refine calls_of_W Tryz.func75 rfl rfl ?_
  repeat (first | refine byW ?_ | (refine byV ?_; intro w hw))
  exact ⟨_, rfl, rfl, rfl⟩⟩
instance pc_span (b s : Int) : PC Tryz.prog 77 [.int .u64 b, .int .u64 s] (.bool (inSpaceB b s)) := ⟨fun w => by
  refine calls_of_W Tryz.func77 rfl rfl ?_
  repeat (first | refine byW ?_ | (refine byV ?_; intro w hw))
  exact ⟨_, rfl, rfl, rfl⟩⟩
def powB (v : Int) : Bool := decide (0 < v) && decide (bitsZ .and .u64 v (IntKind.u64.wrap (v - 1)) = 0)
instance pc_power (v : Int) : PC Tryz.prog 76 [.int .u64 v] (.bool (powB v)) := ⟨fun w => by
  refine calls_of_W Tryz.func76 rfl rfl ?_
  repeat (first | refine byW ?_ | (refine byV ?_; intro w hw))
  exact ⟨_, rfl, rfl, rfl⟩⟩
instance pc_plainR (b : UInt8) : PC Tryz.prog 97 [.int .u8 ((b.toNat : Nat) : Int)] (.bool (inTextC b)) := ⟨fun w => by
  refine calls_of_W Tryz.func97 rfl rfl ?_
  repeat (first | refine byW ?_ | (refine byV ?_; intro w hw))
  refine ⟨_, rfl, ret_b rfl ?_, rfl⟩
  unfold inTextC
  rw [Bool.eq_iff_iff]
  simp only [Bool.and_eq_true, decide_eq_true_eq, Bool.not_eq_true', Bool.or_eq_false_iff, decide_eq_false_iff_not]
  omega⟩
theorem bytesG {s : ByteArray} {k : Nat} (hk : k < s.size) : (s.data.toList)[k]? = some (s.data.toList.getD k 0) := by
  have hk' : k < s.data.toList.length := by rw [size_toList]; exact hk
  rw [List.getD_eq_getElem?_getD, List.getElem?_eq_getElem hk']; rfl
instance pc_PlainR (s : ByteArray) [hs : SB s] : PC Tryz.prog 72 [.string s] (.bool (textB s)) := ⟨fun w => by
  have hs := hs.h
  refine calls_of_W Tryz.func72 rfl rfl ?_
  repeat (first | refine byW ?_ | (refine byV ?_; intro w hw))
  refine W_loop (fun μ ρ w' => ∃ (k : Nat), μ + k = s.size ∧ Has ρ [(0, .string s), (3, .int .i64 k)] ∧ textB s = (s.data.toList.drop k).all inTextC ∧ w' = w) s.size ⟨0, by omega, ⟨rfl, rfl, trivial⟩, rfl, rfl⟩ ?_
  rintro μ ρ w' ⟨k, hk, hρ, hal, rfl⟩
  rw [hρ.eq]
  repeat (first | refine byW ?_ | (refine byV ?_; intro w hw))
  refine W_cond rfl (fun h => ?_) (fun h => ?_)
  · have hkn : k < s.size := by have := of_decide_eq_true h; omega
    have hb := bytesG hkn
    rw [allD hb] at hal
    repeat (first | refine byW ?_ | (refine byV ?_; intro w hw))
    refine W_cond rfl (fun h => ?_) (fun h => ?_)
    · have h : (!inTextC (s.data.toList.getD k 0)) = true := h
      rw [Bool.not_eq_true'] at h
      repeat (first | refine byW ?_ | (refine byV ?_; intro w hw))
      refine ⟨_, rfl, ret_b rfl ?_, rfl⟩
      rw [hal, h]; rfl
    · have h : (!inTextC (s.data.toList.getD k 0)) = false := h
      rw [Bool.not_eq_false'] at h
      rw [h, Bool.true_and] at hal
      repeat (first | refine byW ?_ | (refine byV ?_; intro w hw))
      exact ⟨μ - 1, by omega, k + 1, by omega, ⟨rfl, rfl, trivial⟩, hal, rfl⟩
  · have hkn : s.size ≤ k := by have := of_decide_eq_false h; omega
    rw [allE (by rw [size_toList]; exact hkn)] at hal
    repeat (first | refine byW ?_ | (refine byV ?_; intro w hw))
    exact ⟨_, rfl, ret_b rfl hal.symm, rfl⟩⟩
theorem notF {a : Bool} (h : (!a) = true) : a = false := by rwa [Bool.not_eq_true'] at h
theorem notT {a : Bool} (h : (!a) = false) : a = true := by rwa [Bool.not_eq_false'] at h

theorem names_any {Γ : Gho} {u : Value} {H : HwT} [hh : HwR Γ u H] {S : List Res} {w : World} (hw : Wd Γ S w) :
    Calls Tryz.prog 48 #[u] w fun e w' => e = .returned (.bool (namesB H)) ∧ Wd Γ S w' := by
  obtain ⟨a1, n1, c1, a2, n2, c2, a3, n3, c3, a4, n4, c4, a5, n5, c5, cs, rfl, hcs, hok, hsz, r1, r2, r3, r4, r5⟩ := hh.h
  obtain ⟨f1, f1', f1''⟩ := rep_facts r1
  obtain ⟨f2, f2', f2''⟩ := rep_facts r2
  obtain ⟨f3, f3', f3''⟩ := rep_facts r3
  obtain ⟨f4, f4', f4''⟩ := rep_facts r4
  obtain ⟨f5, f5', f5''⟩ := rep_facts r5
  simp only [List.length_map] at f1 f2 f3 f4 f5
  have hcl : cs.length = H.Caches.length := by rw [← hcs, List.length_map]
  haveI : SB H.Name := SB_of hsz.1
  refine calls_of_W Tryz.func48 rfl rfl ?_
  repeat (first | refine byW ?_ | (refine byV ?_; intro w hw))
  refine lBox ?_
  intro b1 w hw
  have hw : Wd Γ (.blk b1 (hwC H a1 n1 c1 a2 n2 c2 a3 n3 c3 a4 n4 c4 a5 n5 c5) :: S) w := hw
  repeat (first | refine byW ?_ | (refine byV ?_; intro w hw))
  have hN : namesB H = (headB H && (H.Caches.all (fun c => nameS c.Name) && (H.Mems.all (fun c => nameS c.Name) && H.Devs.all (fun c => nameS c.Name)))) := by unfold namesB; simp only [Bool.and_assoc]
  rw [hN]
  refine W_cond rfl (fun h => ?_) (fun h => ?_)
  · have h : ((decide (H.Name = ⟨#[]⟩) || decide ((24 : Int) < (H.Name.size : Nat))) || !textB H.Name) = true := h
    repeat (first | refine byW ?_ | (refine byV ?_; intro w hw))
    refine ⟨_, rfl, ret_b rfl ?_, hw.drop⟩
    have : headB H = false := by
      unfold headB
      simp only [Bool.or_eq_true, decide_eq_true_eq, Bool.not_eq_true'] at h
      rcases h with (h | h) | h
      · rw [decide_eq_false (show ¬ H.Name ≠ ⟨#[]⟩ from fun q => q h)]; rfl
      · rw [decide_eq_false (show ¬ H.Name.size ≤ 24 by omega), Bool.and_false]; rfl
      · rw [h, Bool.and_false]
    rw [this]; rfl
  have h : ((decide (H.Name = ⟨#[]⟩) || decide ((24 : Int) < (H.Name.size : Nat))) || !textB H.Name) = false := h
  have hHd : headB H = true := by
    unfold headB
    simp only [Bool.or_eq_false_iff, decide_eq_false_iff_not, Bool.not_eq_false'] at h
    rw [decide_eq_true (show H.Name ≠ ⟨#[]⟩ from h.1.1), decide_eq_true (show H.Name.size ≤ 24 by omega), h.2]; rfl
  rw [hHd, Bool.true_and]
  clear h hN
  repeat (first | refine byW ?_ | (refine byV ?_; intro w hw))
  refine W_loop (fun μ ρ w => ∃ (k : Nat), μ + k = n2 ∧ Has ρ [(1, .pointer (some ⟨b1, 0, none⟩)), (3, .int .i64 k)] ∧ H.Caches.all (fun c => nameS c.Name) = (H.Caches.drop k).all (fun c => nameS c.Name) ∧ Wd Γ (.blk b1 (hwC H a1 n1 c1 a2 n2 c2 a3 n3 c3 a4 n4 c4 a5 n5 c5) :: S) w) n2 ⟨0, by omega, ⟨rfl, rfl, trivial⟩, rfl, hw⟩ ?_
  clear hw
  rintro μ ρ w ⟨k, hk, hρ, hal, hw⟩
  rw [hρ.eq]
  repeat (first | refine byW ?_ | (refine byV ?_; intro w hw))
  refine W_cond rfl (fun h => ?_) (fun h => ?_)
  · have hkn : k < n2 := by have := of_decide_eq_true h; omega
    clear h
    obtain ⟨x, hx⟩ := get_lt (l := cs) (k := k) (by omega)
    obtain ⟨g1, g2, g3⟩ := (hok x (List.mem_of_getElem? hx)).facts
    have hxT : H.Caches[k]? = some x.T := by rw [← hcs, List.getElem?_map, hx]; rfl
    rw [allD hxT] at hal
    haveI : SB x.Name := SB_of (hsz.2.1 x.T (List.mem_of_getElem? hxT))
    repeat (first | refine byW ?_ | (refine byV ?_; intro w hw))
    refine W_cond rfl (fun h => ?_) (fun h => ?_)
    · have hz : nameS x.Name = false := notF h
      repeat (first | refine byW ?_ | (refine byV ?_; intro w hw))
      refine ⟨_, rfl, ret_b rfl ?_, hw.drop⟩
      rw [show H.Caches.all (fun c => nameS c.Name) = (nameS x.Name && (H.Caches.drop (k + 1)).all (fun c => nameS c.Name)) from hal, hz]; rfl
    · have hz : nameS x.Name = true := notT h
      have hal : H.Caches.all (fun c => nameS c.Name) = (nameS x.Name && (H.Caches.drop (k + 1)).all (fun c => nameS c.Name)) := hal
      rw [hz, Bool.true_and] at hal
      repeat (first | refine byW ?_ | (refine byV ?_; intro w hw))
      exact ⟨μ - 1, by omega, k + 1, by omega, ⟨rfl, rfl, trivial⟩, hal, hw⟩
  have hkn : n2 ≤ k := by have := of_decide_eq_false h; omega
  clear h
  rw [allE (by omega)] at hal
  rw [hal, Bool.true_and]
  clear hk hρ
  repeat (first | refine byW ?_ | (refine byV ?_; intro w hw))
  refine W_loop (fun μ ρ w => ∃ (k : Nat), μ + k = n4 ∧ Has ρ [(1, .pointer (some ⟨b1, 0, none⟩)), (4, .int .i64 k)] ∧ H.Mems.all (fun c => nameS c.Name) = (H.Mems.drop k).all (fun c => nameS c.Name) ∧ Wd Γ (.blk b1 (hwC H a1 n1 c1 a2 n2 c2 a3 n3 c3 a4 n4 c4 a5 n5 c5) :: S) w) n4 ⟨0, by omega, ⟨rfl, rfl, trivial⟩, rfl, hw⟩ ?_
  clear hw hal
  rintro μ ρ w ⟨k, hk, hρ, hal, hw⟩
  rw [hρ.eq]
  repeat (first | refine byW ?_ | (refine byV ?_; intro w hw))
  refine W_cond rfl (fun h => ?_) (fun h => ?_)
  · have hkn : k < n4 := by have := of_decide_eq_true h; omega
    clear h
    obtain ⟨x, hx⟩ := get_lt (l := H.Mems) (k := k) (by omega)
    rw [allD hx] at hal
    haveI : SB x.Name := SB_of (hsz.2.2.1 x (List.mem_of_getElem? hx))
    repeat (first | refine byW ?_ | (refine byV ?_; intro w hw))
    refine W_cond rfl (fun h => ?_) (fun h => ?_)
    · have hz : nameS x.Name = false := notF h
      repeat (first | refine byW ?_ | (refine byV ?_; intro w hw))
      refine ⟨_, rfl, ret_b rfl ?_, hw.drop⟩
      rw [hal, hz]; rfl
    · have hz : nameS x.Name = true := notT h
      skip
      rw [hz, Bool.true_and] at hal
      repeat (first | refine byW ?_ | (refine byV ?_; intro w hw))
      exact ⟨μ - 1, by omega, k + 1, by omega, ⟨rfl, rfl, trivial⟩, hal, hw⟩
  have hkn : n4 ≤ k := by have := of_decide_eq_false h; omega
  clear h
  rw [allE (by omega)] at hal
  rw [hal, Bool.true_and]
  clear hk hρ
  repeat (first | refine byW ?_ | (refine byV ?_; intro w hw))
  refine W_loop (fun μ ρ w => ∃ (k : Nat), μ + k = n5 ∧ Has ρ [(1, .pointer (some ⟨b1, 0, none⟩)), (5, .int .i64 k)] ∧ H.Devs.all (fun c => nameS c.Name) = (H.Devs.drop k).all (fun c => nameS c.Name) ∧ Wd Γ (.blk b1 (hwC H a1 n1 c1 a2 n2 c2 a3 n3 c3 a4 n4 c4 a5 n5 c5) :: S) w) n5 ⟨0, by omega, ⟨rfl, rfl, trivial⟩, rfl, hw⟩ ?_
  clear hw hal
  rintro μ ρ w ⟨k, hk, hρ, hal, hw⟩
  rw [hρ.eq]
  repeat (first | refine byW ?_ | (refine byV ?_; intro w hw))
  refine W_cond rfl (fun h => ?_) (fun h => ?_)
  · have hkn : k < n5 := by have := of_decide_eq_true h; omega
    clear h
    obtain ⟨x, hx⟩ := get_lt (l := H.Devs) (k := k) (by omega)
    rw [allD hx] at hal
    haveI : SB x.Name := SB_of (hsz.2.2.2 x (List.mem_of_getElem? hx))
    repeat (first | refine byW ?_ | (refine byV ?_; intro w hw))
    refine W_cond rfl (fun h => ?_) (fun h => ?_)
    · have hz : nameS x.Name = false := notF h
      repeat (first | refine byW ?_ | (refine byV ?_; intro w hw))
      refine ⟨_, rfl, ret_b rfl ?_, hw.drop⟩
      rw [hal, hz]; rfl
    · have hz : nameS x.Name = true := notT h
      skip
      rw [hz, Bool.true_and] at hal
      repeat (first | refine byW ?_ | (refine byV ?_; intro w hw))
      exact ⟨μ - 1, by omega, k + 1, by omega, ⟨rfl, rfl, trivial⟩, hal, hw⟩
  have hkn : n5 ≤ k := by have := of_decide_eq_false h; omega
  clear h
  rw [allE (by omega)] at hal
  rw [hal]
  clear hk hρ
  repeat (first | refine byW ?_ | (refine byV ?_; intro w hw))
  exact ⟨_, rfl, rfl, hw.drop⟩
def coreBad (c : CoreT) : Bool := ((!inB c.ID 0 31 || (decide (c.Width ≠ 32) && decide (c.Width ≠ 39))) || !inB c.Node 0 63) || !inB c.Speed 1 1000000
def cacheBad (lv ln sz : Int) (n : Nat) : Bool := ((((!inB lv 1 4 || !inB ln 16 256) || !powB (IntKind.u64.wrap ln)) || decide (sz < IntKind.u64.wrap ln)) || decide (sz > 1099511627776)) || decide ((n : Int) = 0)
def linkBad (c : LinkT) : Bool := ((!inB c.A 0 63 || !inB c.B 0 63) || decide (c.A = c.B)) || !inB c.Latency 1 1000000
def memBad (c : MemT) : Bool := (!inB c.Node 0 63 || !inB c.Latency 1 1000000) || !inSpaceB c.Base c.Size
def devBad (c : DevT) : Bool := (!inB c.Node 0 63 || !inB c.IRQ 0 255) || !inSpaceB c.Base c.Size
theorem core_bad (c : CoreT) : coreRB c = !coreBad c := by
  unfold coreRB coreBad inB isNodeB
  rw [Bool.eq_iff_iff]
  simp only [Bool.and_eq_true, Bool.or_eq_true, decide_eq_true_eq, Bool.not_eq_true', Bool.or_eq_false_iff, Bool.not_eq_false', Bool.and_eq_false_iff, decide_eq_false_iff_not]
  omega
theorem link_bad (c : LinkT) : linkRB c = !linkBad c := by
  unfold linkRB linkBad inB isNodeB isLatB
  rw [Bool.eq_iff_iff]
  simp only [Bool.and_eq_true, Bool.or_eq_true, decide_eq_true_eq, Bool.not_eq_true', Bool.or_eq_false_iff, Bool.not_eq_false', Bool.and_eq_false_iff, decide_eq_false_iff_not]
  omega
theorem mem_bad (c : MemT) : memRB c = !memBad c := by
  unfold memRB memBad inB isNodeB isLatB
  generalize inSpaceB c.Base c.Size = q
  rw [Bool.eq_iff_iff]
  simp only [Bool.and_eq_true, Bool.or_eq_true, decide_eq_true_eq, Bool.not_eq_true', Bool.or_eq_false_iff, Bool.not_eq_false', Bool.and_eq_false_iff, decide_eq_false_iff_not]
  exact and_congr (by omega) Iff.rfl
theorem dev_bad (c : DevT) : devRB c = !devBad c := by
  unfold devRB devBad inB isNodeB
  generalize inSpaceB c.Base c.Size = q
  rw [Bool.eq_iff_iff]
  simp only [Bool.and_eq_true, Bool.or_eq_true, decide_eq_true_eq, Bool.not_eq_true', Bool.or_eq_false_iff, Bool.not_eq_false', Bool.and_eq_false_iff, decide_eq_false_iff_not]
  exact and_congr (by omega) Iff.rfl
theorem line_fin : ∀ n : Fin 257, decide (bitsZ .and .i64 (n.1 : Int) (IntKind.i64.wrap ((n.1 : Int) - 1)) = 0) = decide (bitsZ .and .u64 (n.1 : Int) (IntKind.u64.wrap ((n.1 : Int) - 1)) = 0) ∨ n.1 = 0 := by decide +kernel
theorem cache_bad (c : CacheT) : cacheRB c = !cacheBad c.Level c.Line c.Size c.Cores.length := by
  unfold cacheRB cacheBad
  by_cases hl : 16 ≤ c.Line ∧ c.Line ≤ 256
  · have hw : IntKind.u64.wrap c.Line = c.Line := by rw [IntKind.wrap_u64]; omega
    have hb : decide (bitsZ .and .i64 c.Line (IntKind.i64.wrap (c.Line - 1)) = 0) = powB c.Line := by
      unfold powB
      have := line_fin ⟨c.Line.toNat, by omega⟩
      simp only [show ((c.Line.toNat : Nat) : Int) = c.Line by omega] at this
      rw [decide_eq_true (show 0 < c.Line by omega), Bool.true_and]
      exact this.resolve_right (by omega)
    rw [hw, hb]
    generalize powB c.Line = q
    unfold inB
    rw [Bool.eq_iff_iff]
    simp only [Bool.and_eq_true, Bool.or_eq_true, decide_eq_true_eq, Bool.not_eq_true', Bool.or_eq_false_iff, Bool.not_eq_false', Bool.and_eq_false_iff, decide_eq_false_iff_not]
    rcases Bool.eq_false_or_eq_true q with hq | hq
    · simp only [hq, and_true]; omega
    · simp [hq]
  · have h1 : (decide (16 ≤ c.Line) && decide (c.Line ≤ 256)) = false := by
      rw [Bool.and_eq_false_iff, decide_eq_false_iff_not, decide_eq_false_iff_not]; omega
    have h2 : inB c.Line 16 256 = false := h1
    rw [h2, Bool.not_false, Bool.or_true, Bool.true_or, Bool.true_or, Bool.true_or, Bool.true_or, Bool.not_true]
    rw [Bool.and_eq_false_iff] at h1
    rcases h1 with h1 | h1 <;> simp only [h1, Bool.and_false, Bool.false_and]
theorem bad_no {p q : Bool} (h : p = !q) (hq : q = true) : p = false := by rw [h, hq]; rfl
theorem bad_ok {p q : Bool} (h : p = !q) (hq : q = false) : p = true := by rw [h, hq]; rfl
theorem ranges_any {Γ : Gho} {u : Value} {H : HwT} [hh : HwR Γ u H] {S : List Res} {w : World} (hw : Wd Γ S w) :
    Calls Tryz.prog 49 #[u] w fun e w' => e = .returned (.bool (coresRB H && regionsRB H)) ∧ Wd Γ S w' := by
  obtain ⟨a1, n1, c1, a2, n2, c2, a3, n3, c3, a4, n4, c4, a5, n5, c5, cs, rfl, hcs, hok, hsz, r1, r2, r3, r4, r5⟩ := hh.h
  obtain ⟨f1, f1', f1''⟩ := rep_facts r1
  obtain ⟨f2, f2', f2''⟩ := rep_facts r2
  obtain ⟨f3, f3', f3''⟩ := rep_facts r3
  obtain ⟨f4, f4', f4''⟩ := rep_facts r4
  obtain ⟨f5, f5', f5''⟩ := rep_facts r5
  simp only [List.length_map] at f1 f2 f3 f4 f5
  have hcl : cs.length = H.Caches.length := by rw [← hcs, List.length_map]
  have hN : (coresRB H && regionsRB H) = (H.Cores.all coreRB && (H.Caches.all cacheRB && (H.Links.all linkRB && (H.Mems.all memRB && H.Devs.all devRB)))) := by unfold coresRB regionsRB; simp only [Bool.and_assoc]
  rw [hN]
  clear hN
  refine calls_of_W Tryz.func49 rfl rfl ?_
  repeat (first | refine byW ?_ | (refine byV ?_; intro w hw))
  refine lBox ?_
  intro b1 w hw
  have hw : Wd Γ (.blk b1 (hwC H a1 n1 c1 a2 n2 c2 a3 n3 c3 a4 n4 c4 a5 n5 c5) :: S) w := hw
  repeat (first | refine byW ?_ | (refine byV ?_; intro w hw))
  refine W_loop (fun μ ρ w => ∃ (k : Nat), μ + k = n1 ∧ Has ρ [(1, .pointer (some ⟨b1, 0, none⟩)), (3, .int .i64 k)] ∧ H.Cores.all (coreRB) = (H.Cores.drop k).all (coreRB) ∧ Wd Γ (.blk b1 (hwC H a1 n1 c1 a2 n2 c2 a3 n3 c3 a4 n4 c4 a5 n5 c5) :: S) w) n1 ⟨0, by omega, ⟨rfl, rfl, trivial⟩, rfl, hw⟩ ?_
  clear hw
  rintro μ ρ w ⟨k, hk, hρ, hal, hw⟩
  rw [hρ.eq]
  repeat (first | refine byW ?_ | (refine byV ?_; intro w hw))
  refine W_cond rfl (fun h => ?_) (fun h => ?_)
  · have hkn : k < n1 := by have := of_decide_eq_true h; omega
    clear h
    obtain ⟨x, hx⟩ := get_lt (l := H.Cores) (k := k) (by omega)
    rw [allD hx] at hal
    repeat (first | refine byW ?_ | (refine byV ?_; intro w hw))
    refine lAlloc ?_
    intro b6 w hw
    refine lStore ?_
    intro w hw
    have hw : Wd Γ (.blk b6 (.cells (enc x).toArray 53) :: .blk b1 (hwC H a1 n1 c1 a2 n2 c2 a3 n3 c3 a4 n4 c4 a5 n5 c5) :: S) w := hw
    repeat (first | refine byW ?_ | (refine byV ?_; intro w hw))
    refine W_cond rfl (fun h => ?_) (fun h => ?_)
    · have hz : coreRB x = false := bad_no (core_bad x) (show coreBad x = true from h)
      repeat (first | refine byW ?_ | (refine byV ?_; intro w hw))
      refine ⟨_, rfl, ret_b rfl ?_, hw.ds [0, 0]⟩
      rw [hal, hz]; rfl
    · have hz : coreRB x = true := bad_ok (core_bad x) (show coreBad x = false from h)
      rw [hz, Bool.true_and] at hal
      repeat (first | refine byW ?_ | (refine byV ?_; intro w hw))
      exact ⟨μ - 1, by omega, k + 1, by omega, ⟨rfl, rfl, trivial⟩, hal, hw.drop⟩
  have hkn : n1 ≤ k := by have := of_decide_eq_false h; omega
  clear h
  rw [allE (by omega)] at hal
  rw [hal, Bool.true_and]
  clear hk hρ
  repeat (first | refine byW ?_ | (refine byV ?_; intro w hw))
  refine W_loop (fun μ ρ w => ∃ (k : Nat), μ + k = n2 ∧ Has ρ [(1, .pointer (some ⟨b1, 0, none⟩)), (5, .int .i64 k)] ∧ H.Caches.all (cacheRB) = (H.Caches.drop k).all (cacheRB) ∧ Wd Γ (.blk b1 (hwC H a1 n1 c1 a2 n2 c2 a3 n3 c3 a4 n4 c4 a5 n5 c5) :: S) w) n2 ⟨0, by omega, ⟨rfl, rfl, trivial⟩, rfl, hw⟩ ?_
  clear hw hal
  rintro μ ρ w ⟨k, hk, hρ, hal, hw⟩
  rw [hρ.eq]
  repeat (first | refine byW ?_ | (refine byV ?_; intro w hw))
  refine W_cond rfl (fun h => ?_) (fun h => ?_)
  · have hkn : k < n2 := by have := of_decide_eq_true h; omega
    clear h
    obtain ⟨x, hx⟩ := get_lt (l := cs) (k := k) (by omega)
    obtain ⟨g1, g2, g3⟩ := (hok x (List.mem_of_getElem? hx)).facts
    have hxT : H.Caches[k]? = some x.T := by rw [← hcs, List.getElem?_map, hx]; rfl
    rw [allD hxT] at hal
    repeat (first | refine byW ?_ | (refine byV ?_; intro w hw))
    refine lAlloc ?_
    intro b6 w hw
    refine lStore ?_
    intro w hw
    have hw : Wd Γ (.blk b6 (.cells (cC x).toArray 65) :: .blk b1 (hwC H a1 n1 c1 a2 n2 c2 a3 n3 c3 a4 n4 c4 a5 n5 c5) :: S) w := hw
    repeat (first | refine byW ?_ | (refine byV ?_; intro w hw))
    refine W_cond rfl (fun h => ?_) (fun h => ?_)
    · have hz : cacheRB x.T = false := bad_no (by have := cache_bad x.T; rw [show x.T.Cores.length = x.N from g1.symm] at this; exact this) (show cacheBad x.Level x.Line x.Size x.N = true from h)
      repeat (first | refine byW ?_ | (refine byV ?_; intro w hw))
      refine ⟨_, rfl, ret_b rfl ?_, hw.ds [0, 0]⟩
      rw [hal, hz]; rfl
    · have hz : cacheRB x.T = true := bad_ok (by have := cache_bad x.T; rw [show x.T.Cores.length = x.N from g1.symm] at this; exact this) (show cacheBad x.Level x.Line x.Size x.N = false from h)
      rw [hz, Bool.true_and] at hal
      repeat (first | refine byW ?_ | (refine byV ?_; intro w hw))
      exact ⟨μ - 1, by omega, k + 1, by omega, ⟨rfl, rfl, trivial⟩, hal, hw.drop⟩
  have hkn : n2 ≤ k := by have := of_decide_eq_false h; omega
  clear h
  rw [allE (by omega)] at hal
  rw [hal, Bool.true_and]
  clear hk hρ
  repeat (first | refine byW ?_ | (refine byV ?_; intro w hw))
  refine W_loop (fun μ ρ w => ∃ (k : Nat), μ + k = n3 ∧ Has ρ [(1, .pointer (some ⟨b1, 0, none⟩)), (7, .int .i64 k)] ∧ H.Links.all (linkRB) = (H.Links.drop k).all (linkRB) ∧ Wd Γ (.blk b1 (hwC H a1 n1 c1 a2 n2 c2 a3 n3 c3 a4 n4 c4 a5 n5 c5) :: S) w) n3 ⟨0, by omega, ⟨rfl, rfl, trivial⟩, rfl, hw⟩ ?_
  clear hw hal
  rintro μ ρ w ⟨k, hk, hρ, hal, hw⟩
  rw [hρ.eq]
  repeat (first | refine byW ?_ | (refine byV ?_; intro w hw))
  refine W_cond rfl (fun h => ?_) (fun h => ?_)
  · have hkn : k < n3 := by have := of_decide_eq_true h; omega
    clear h
    obtain ⟨x, hx⟩ := get_lt (l := H.Links) (k := k) (by omega)
    rw [allD hx] at hal
    repeat (first | refine byW ?_ | (refine byV ?_; intro w hw))
    refine lAlloc ?_
    intro b6 w hw
    refine lStore ?_
    intro w hw
    have hw : Wd Γ (.blk b6 (.cells (enc x).toArray 56) :: .blk b1 (hwC H a1 n1 c1 a2 n2 c2 a3 n3 c3 a4 n4 c4 a5 n5 c5) :: S) w := hw
    repeat (first | refine byW ?_ | (refine byV ?_; intro w hw))
    refine W_cond rfl (fun h => ?_) (fun h => ?_)
    · have hz : linkRB x = false := bad_no (link_bad x) (show linkBad x = true from h)
      repeat (first | refine byW ?_ | (refine byV ?_; intro w hw))
      refine ⟨_, rfl, ret_b rfl ?_, hw.ds [0, 0]⟩
      rw [hal, hz]; rfl
    · have hz : linkRB x = true := bad_ok (link_bad x) (show linkBad x = false from h)
      rw [hz, Bool.true_and] at hal
      repeat (first | refine byW ?_ | (refine byV ?_; intro w hw))
      exact ⟨μ - 1, by omega, k + 1, by omega, ⟨rfl, rfl, trivial⟩, hal, hw.drop⟩
  have hkn : n3 ≤ k := by have := of_decide_eq_false h; omega
  clear h
  rw [allE (by omega)] at hal
  rw [hal, Bool.true_and]
  clear hk hρ
  repeat (first | refine byW ?_ | (refine byV ?_; intro w hw))
  refine W_loop (fun μ ρ w => ∃ (k : Nat), μ + k = n4 ∧ Has ρ [(1, .pointer (some ⟨b1, 0, none⟩)), (9, .int .i64 k)] ∧ H.Mems.all (memRB) = (H.Mems.drop k).all (memRB) ∧ Wd Γ (.blk b1 (hwC H a1 n1 c1 a2 n2 c2 a3 n3 c3 a4 n4 c4 a5 n5 c5) :: S) w) n4 ⟨0, by omega, ⟨rfl, rfl, trivial⟩, rfl, hw⟩ ?_
  clear hw hal
  rintro μ ρ w ⟨k, hk, hρ, hal, hw⟩
  rw [hρ.eq]
  repeat (first | refine byW ?_ | (refine byV ?_; intro w hw))
  refine W_cond rfl (fun h => ?_) (fun h => ?_)
  · have hkn : k < n4 := by have := of_decide_eq_true h; omega
    clear h
    obtain ⟨x, hx⟩ := get_lt (l := H.Mems) (k := k) (by omega)
    rw [allD hx] at hal
    repeat (first | refine byW ?_ | (refine byV ?_; intro w hw))
    refine lAlloc ?_
    intro b6 w hw
    refine lStore ?_
    intro w hw
    have hw : Wd Γ (.blk b6 (.cells (enc x).toArray 67) :: .blk b1 (hwC H a1 n1 c1 a2 n2 c2 a3 n3 c3 a4 n4 c4 a5 n5 c5) :: S) w := hw
    repeat (first | refine byW ?_ | (refine byV ?_; intro w hw))
    refine W_cond rfl (fun h => ?_) (fun h => ?_)
    · have hz : memRB x = false := bad_no (mem_bad x) (show memBad x = true from h)
      repeat (first | refine byW ?_ | (refine byV ?_; intro w hw))
      refine ⟨_, rfl, ret_b rfl ?_, hw.ds [0, 0]⟩
      rw [hal, hz]; rfl
    · have hz : memRB x = true := bad_ok (mem_bad x) (show memBad x = false from h)
      rw [hz, Bool.true_and] at hal
      repeat (first | refine byW ?_ | (refine byV ?_; intro w hw))
      exact ⟨μ - 1, by omega, k + 1, by omega, ⟨rfl, rfl, trivial⟩, hal, hw.drop⟩
  have hkn : n4 ≤ k := by have := of_decide_eq_false h; omega
  clear h
  rw [allE (by omega)] at hal
  rw [hal, Bool.true_and]
  clear hk hρ
  repeat (first | refine byW ?_ | (refine byV ?_; intro w hw))
  refine W_loop (fun μ ρ w => ∃ (k : Nat), μ + k = n5 ∧ Has ρ [(1, .pointer (some ⟨b1, 0, none⟩)), (11, .int .i64 k)] ∧ H.Devs.all (devRB) = (H.Devs.drop k).all (devRB) ∧ Wd Γ (.blk b1 (hwC H a1 n1 c1 a2 n2 c2 a3 n3 c3 a4 n4 c4 a5 n5 c5) :: S) w) n5 ⟨0, by omega, ⟨rfl, rfl, trivial⟩, rfl, hw⟩ ?_
  clear hw hal
  rintro μ ρ w ⟨k, hk, hρ, hal, hw⟩
  rw [hρ.eq]
  repeat (first | refine byW ?_ | (refine byV ?_; intro w hw))
  refine W_cond rfl (fun h => ?_) (fun h => ?_)
  · have hkn : k < n5 := by have := of_decide_eq_true h; omega
    clear h
    obtain ⟨x, hx⟩ := get_lt (l := H.Devs) (k := k) (by omega)
    rw [allD hx] at hal
    repeat (first | refine byW ?_ | (refine byV ?_; intro w hw))
    refine lAlloc ?_
    intro b6 w hw
    refine lStore ?_
    intro w hw
    have hw : Wd Γ (.blk b6 (.cells (enc x).toArray 69) :: .blk b1 (hwC H a1 n1 c1 a2 n2 c2 a3 n3 c3 a4 n4 c4 a5 n5 c5) :: S) w := hw
    repeat (first | refine byW ?_ | (refine byV ?_; intro w hw))
    refine W_cond rfl (fun h => ?_) (fun h => ?_)
    · have hz : devRB x = false := bad_no (dev_bad x) (show devBad x = true from h)
      repeat (first | refine byW ?_ | (refine byV ?_; intro w hw))
      refine ⟨_, rfl, ret_b rfl ?_, hw.ds [0, 0]⟩
      rw [hal, hz]; rfl
    · have hz : devRB x = true := bad_ok (dev_bad x) (show devBad x = false from h)
      rw [hz, Bool.true_and] at hal
      repeat (first | refine byW ?_ | (refine byV ?_; intro w hw))
      exact ⟨μ - 1, by omega, k + 1, by omega, ⟨rfl, rfl, trivial⟩, hal, hw.drop⟩
  have hkn : n5 ≤ k := by have := of_decide_eq_false h; omega
  clear h
  rw [allE (by omega)] at hal
  rw [hal]
  clear hk hρ
  repeat (first | refine byW ?_ | (refine byV ?_; intro w hw))
  exact ⟨_, rfl, rfl, hw.drop⟩
def memAR (m : MemT) : Bool := powB m.Size && decide (m.Base.tmod m.Size = 0)
theorem aligned_any {Γ : Gho} {u : Value} {H : HwT} [hh : HwR Γ u H] {S : List Res} {w : World} (hw : Wd Γ S w) :
    Calls Tryz.prog 50 #[u] w fun e w' => e = .returned (.bool (H.Mems.all memAR && H.Devs.all devAB)) ∧ Wd Γ S w' := by
  obtain ⟨a1, n1, c1, a2, n2, c2, a3, n3, c3, a4, n4, c4, a5, n5, c5, cs, rfl, hcs, hok, hsz, r1, r2, r3, r4, r5⟩ := hh.h
  obtain ⟨f1, f1', f1''⟩ := rep_facts r1
  obtain ⟨f2, f2', f2''⟩ := rep_facts r2
  obtain ⟨f3, f3', f3''⟩ := rep_facts r3
  obtain ⟨f4, f4', f4''⟩ := rep_facts r4
  obtain ⟨f5, f5', f5''⟩ := rep_facts r5
  simp only [List.length_map] at f1 f2 f3 f4 f5
  have hcl : cs.length = H.Caches.length := by rw [← hcs, List.length_map]
  refine calls_of_W Tryz.func50 rfl rfl ?_
  repeat (first | refine byW ?_ | (refine byV ?_; intro w hw))
  refine lBox ?_
  intro b1 w hw
  have hw : Wd Γ (.blk b1 (hwC H a1 n1 c1 a2 n2 c2 a3 n3 c3 a4 n4 c4 a5 n5 c5) :: S) w := hw
  repeat (first | refine byW ?_ | (refine byV ?_; intro w hw))
  refine W_loop (fun μ ρ w => ∃ (k : Nat), μ + k = n4 ∧ Has ρ [(1, .pointer (some ⟨b1, 0, none⟩)), (3, .int .i64 k)] ∧ H.Mems.all (memAR) = (H.Mems.drop k).all (memAR) ∧ Wd Γ (.blk b1 (hwC H a1 n1 c1 a2 n2 c2 a3 n3 c3 a4 n4 c4 a5 n5 c5) :: S) w) n4 ⟨0, by omega, ⟨rfl, rfl, trivial⟩, rfl, hw⟩ ?_
  clear hw
  rintro μ ρ w ⟨k, hk, hρ, hal, hw⟩
  rw [hρ.eq]
  repeat (first | refine byW ?_ | (refine byV ?_; intro w hw))
  refine W_cond rfl (fun h => ?_) (fun h => ?_)
  · have hkn : k < n4 := by have := of_decide_eq_true h; omega
    clear h
    obtain ⟨x, hx⟩ := get_lt (l := H.Mems) (k := k) (by omega)
    rw [allD hx] at hal
    repeat (first | refine byW ?_ | (refine byV ?_; intro w hw))
    refine lAlloc ?_
    intro b6 w hw
    refine lStore ?_
    intro w hw
    have hw : Wd Γ (.blk b6 (.cells (enc x).toArray 67) :: .blk b1 (hwC H a1 n1 c1 a2 n2 c2 a3 n3 c3 a4 n4 c4 a5 n5 c5) :: S) w := hw
    have hS : memAR x = (powB x.Size && decide (x.Base.tmod x.Size = 0)) := rfl
    have hPN : PC Tryz.prog 76 [.int .u64 x.Size] (.bool (powB x.Size)) := inferInstance
    cases h1 : powB x.Size with
    | false =>
      rw [h1] at hPN
      repeat (first | (first | refine W_seq ?_ | refine W_block ?_ | refine W_region ?_ | refine W_skip ?_ | refine W_ret ?_ | refine W_exit ?_) | ((first | apply L_bin | apply L_notop); first | (refine lT ?_ ?_; (first | exact rfl | exact decide_eq_true rfl | (simp; done))) | (refine lF ?_ ?_; (first | exact rfl | exact decide_eq_true rfl | (simp; done)))) | (first | refine L_nil ?_ | (apply L_plain; first | (apply L_go; first | refine lP ?_ | (refine lPg ?_; intro w hw)) | (apply L_mf; refine lMakeFunc ?_) | refine lY ?_) | (apply L_guarded; first | refine lGT ?_ (hct := rfl) | refine lGF ?_ (hct := rfl) | (apply L_go; first | refine lPG ?_ | (refine lPgG ?_; intro w hw)) | refine lG ?_)) | (refine lAlloc ?_; intro _ w hw) | (refine lBox ?_; intro _ w hw) | (refine lStore ?_; intro w hw))
      refine W_cond_true rfl ?_
      repeat (first | refine byW ?_ | (refine byV ?_; intro w hw))
      refine ⟨_, rfl, ret_b rfl ?_, hw.ds [0, 0]⟩
      rw [hal, hS, h1]; rfl
    | true =>
      rw [h1] at hPN
      have hpos : 0 < x.Size := by
        unfold powB at h1
        rw [Bool.and_eq_true, decide_eq_true_eq] at h1; exact h1.1
      cases hb1 : decide (x.Base.tmod x.Size ≠ 0) with
      | true =>
        have h3 : ¬ x.Base.tmod x.Size = 0 := of_decide_eq_true hb1
        repeat (first | (first | refine W_seq ?_ | refine W_block ?_ | refine W_region ?_ | refine W_skip ?_ | refine W_ret ?_ | refine W_exit ?_) | ((first | apply L_bin | apply L_notop); first | (refine lT ?_ ?_; (first | exact hb1 | exact hb2 | exact hb3 | exact hb4)) | (refine lF ?_ ?_; (first | exact hb1 | exact hb2 | exact hb3 | exact hb4))) | (first | refine L_nil ?_ | (apply L_plain; first | (apply L_go; first | refine lP ?_ | (refine lPg ?_; intro w hw)) | (apply L_mf; refine lMakeFunc ?_) | refine lY ?_) | (apply L_guarded; first | refine lGT ?_ (hct := rfl) | refine lGF ?_ (hct := rfl) | (apply L_go; first | refine lPG ?_ | (refine lPgG ?_; intro w hw)) | refine lG ?_)) | (refine lAlloc ?_; intro _ w hw) | (refine lBox ?_; intro _ w hw) | (refine lStore ?_; intro w hw))
        refine W_cond_true rfl ?_
        repeat (first | refine byW ?_ | (refine byV ?_; intro w hw))
        refine ⟨_, rfl, ret_b rfl ?_, hw.ds [0, 0]⟩
        rw [hal, hS, h1, decide_eq_false h3]; rfl
      | false =>
        have h3 : x.Base.tmod x.Size = 0 := Classical.byContradiction fun q => (of_decide_eq_false hb1) q
        rw [hS, h1, decide_eq_true h3] at hal
        have hal : H.Mems.all memAR = (H.Mems.drop (k + 1)).all memAR := hal
        repeat (first | (first | refine W_seq ?_ | refine W_block ?_ | refine W_region ?_ | refine W_skip ?_ | refine W_ret ?_ | refine W_exit ?_) | ((first | apply L_bin | apply L_notop); first | (refine lT ?_ ?_; (first | exact hb1 | exact hb2 | exact hb3 | exact hb4)) | (refine lF ?_ ?_; (first | exact hb1 | exact hb2 | exact hb3 | exact hb4))) | (first | refine L_nil ?_ | (apply L_plain; first | (apply L_go; first | refine lP ?_ | (refine lPg ?_; intro w hw)) | (apply L_mf; refine lMakeFunc ?_) | refine lY ?_) | (apply L_guarded; first | refine lGT ?_ (hct := rfl) | refine lGF ?_ (hct := rfl) | (apply L_go; first | refine lPG ?_ | (refine lPgG ?_; intro w hw)) | refine lG ?_)) | (refine lAlloc ?_; intro _ w hw) | (refine lBox ?_; intro _ w hw) | (refine lStore ?_; intro w hw))
        refine W_cond_false rfl ?_
        repeat (first | refine byW ?_ | (refine byV ?_; intro w hw))
        exact ⟨μ - 1, by omega, k + 1, by omega, ⟨rfl, rfl, trivial⟩, hal, hw.drop⟩
  have hkn : n4 ≤ k := by have := of_decide_eq_false h; omega
  clear h
  rw [allE (by omega)] at hal
  rw [hal, Bool.true_and]
  clear hk hρ
  repeat (first | refine byW ?_ | (refine byV ?_; intro w hw))
  refine W_loop (fun μ ρ w => ∃ (k : Nat), μ + k = n5 ∧ Has ρ [(1, .pointer (some ⟨b1, 0, none⟩)), (5, .int .i64 k)] ∧ H.Devs.all (devAB) = (H.Devs.drop k).all (devAB) ∧ Wd Γ (.blk b1 (hwC H a1 n1 c1 a2 n2 c2 a3 n3 c3 a4 n4 c4 a5 n5 c5) :: S) w) n5 ⟨0, by omega, ⟨rfl, rfl, trivial⟩, rfl, hw⟩ ?_
  clear hw hal
  rintro μ ρ w ⟨k, hk, hρ, hal, hw⟩
  rw [hρ.eq]
  repeat (first | refine byW ?_ | (refine byV ?_; intro w hw))
  refine W_cond rfl (fun h => ?_) (fun h => ?_)
  · have hkn : k < n5 := by have := of_decide_eq_true h; omega
    clear h
    obtain ⟨x, hx⟩ := get_lt (l := H.Devs) (k := k) (by omega)
    rw [allD hx] at hal
    repeat (first | refine byW ?_ | (refine byV ?_; intro w hw))
    refine lAlloc ?_
    intro b6 w hw
    refine lStore ?_
    intro w hw
    have hw : Wd Γ (.blk b6 (.cells (enc x).toArray 69) :: .blk b1 (hwC H a1 n1 c1 a2 n2 c2 a3 n3 c3 a4 n4 c4 a5 n5 c5) :: S) w := hw
    repeat (first | refine byW ?_ | (refine byV ?_; intro w hw))
    refine W_cond rfl (fun h => ?_) (fun h => ?_)
    · have h : (decide (x.Base.tmod 4096 ≠ 0) || decide (x.Size.tmod 4096 ≠ 0)) = true := h
      have hz : devAB x = false := by
        unfold devAB
        simp only [Bool.or_eq_true, decide_eq_true_eq] at h
        rw [Bool.and_eq_false_iff, decide_eq_false_iff_not, decide_eq_false_iff_not]; exact h
      repeat (first | refine byW ?_ | (refine byV ?_; intro w hw))
      refine ⟨_, rfl, ret_b rfl ?_, hw.ds [0, 0]⟩
      rw [hal, hz]; rfl
    · have h : (decide (x.Base.tmod 4096 ≠ 0) || decide (x.Size.tmod 4096 ≠ 0)) = false := h
      have hz : devAB x = true := by
        unfold devAB
        simp only [Bool.or_eq_false_iff, decide_eq_false_iff_not, Decidable.not_not] at h
        rw [Bool.and_eq_true, decide_eq_true_eq, decide_eq_true_eq]; exact h
      rw [hz, Bool.true_and] at hal
      repeat (first | refine byW ?_ | (refine byV ?_; intro w hw))
      exact ⟨μ - 1, by omega, k + 1, by omega, ⟨rfl, rfl, trivial⟩, hal, hw.drop⟩
  have hkn : n5 ≤ k := by have := of_decide_eq_false h; omega
  clear h
  rw [allE (by omega)] at hal
  rw [hal]
  clear hk hρ
  repeat (first | refine byW ?_ | (refine byV ?_; intro w hw))
  exact ⟨_, rfl, rfl, hw.drop⟩
end Go.Proofs.YteiijmclobggjaaGreat
end
/- The reference's Validate: alignment by bits; overlap. -/
section
open Go Mk
namespace Go.Proofs.YteiijmclobggjaaGreat
set_option maxHeartbeats 16000000
attribute [local irreducible] Calls
/-! ### powers of two -/
theorem pow_of_and : ∀ (n : Nat), 0 < n → n &&& (n - 1) = 0 → ∃ e, n = 2 ^ e := by
  intro n
  induction n using Nat.strongRecOn with
  | ind n ih =>
    intro h0 h
    have h1 : (n / 2) &&& ((n - 1) / 2) = 0 := by rw [← Nat.and_div_two, h]
    by_cases e : n % 2 = 0
    · have h2 : (n - 1) / 2 = n / 2 - 1 := by omega
      rw [h2] at h1
      obtain ⟨e1, he⟩ := ih (n / 2) (by omega) (by omega) h1
      exact ⟨e1 + 1, by rw [Nat.pow_succ, ← he]; omega⟩
    · have h2 : (n - 1) / 2 = n / 2 := by omega
      rw [h2, Nat.and_self] at h1
      exact ⟨0, by omega⟩
def u64I (n : Int) : Prop := 0 ≤ n ∧ n < 18446744073709551616
theorem bitsU {a b : Int} (ha : u64I a) (hb : u64I b) : bitsZ .and .u64 a b = ((a.toNat &&& b.toNat : Nat) : Int) := by
  unfold u64I at ha hb
  have h1 : (BitVec.ofInt 64 a).toNat = a.toNat := by rw [BitVec.toNat_ofInt]; omega
  have h2 : (BitVec.ofInt 64 b).toNat = b.toNat := by rw [BitVec.toNat_ofInt]; omega
  have h3 : (BitVec.ofInt 64 a &&& BitVec.ofInt 64 b).toNat = a.toNat &&& b.toNat := by rw [BitVec.toNat_and, h1, h2]
  have h4 : a.toNat &&& b.toNat ≤ a.toNat := Nat.and_le_left
  show IntKind.u64.wrap ((BitVec.ofInt 64 a &&& BitVec.ofInt 64 b).toNat : Nat) = _
  rw [h3]
  simp [IntKind.wrap, IntKind.bits, IntKind.signed]
  omega
theorem align_eq {b s : Int} (hb : u64I b) (hs : 4096 ≤ s ∧ s ≤ 1099511627776) :
    (powB s && decide (b.tmod s = 0)) = (decide (bitsZ .and .u64 s (IntKind.u64.wrap (s - 1)) = 0) && decide (bitsZ .and .u64 b (IntKind.u64.wrap (s - 1)) = 0)) := by
  have hw : IntKind.u64.wrap (s - 1) = s - 1 := by simp [IntKind.wrap, IntKind.bits, IntKind.signed]; omega
  have hs1 : u64I s := by unfold u64I; omega
  have hs2 : u64I (s - 1) := by unfold u64I; omega
  unfold powB
  rw [hw, bitsU hs1 hs2, bitsU hb hs2, decide_eq_true (show 0 < s by omega), Bool.true_and]
  by_cases e : ((s.toNat &&& (s - 1).toNat : Nat) : Int) = 0
  · rw [decide_eq_true e, Bool.true_and, Bool.true_and]
    have e0 : s.toNat &&& (s.toNat - 1) = 0 := by
      have : (s - 1).toNat = s.toNat - 1 := by omega
      rw [this] at e; omega
    obtain ⟨p, hp⟩ := pow_of_and s.toNat (by omega) e0
    have h1 : (s - 1).toNat = 2 ^ p - 1 := by omega
    rw [h1, Nat.and_two_pow_sub_one_eq_mod, ← hp]
    unfold u64I at hb
    rw [Int.tmod_eq_emod_of_nonneg hb.1]
    congr 1
    apply propext
    have h2 : b % s = ((b.toNat % s.toNat : Nat) : Int) := by
      rw [Int.natCast_emod]
      congr 1 <;> omega
    rw [h2]
  · rw [decide_eq_false e, Bool.false_and, Bool.false_and]
/-- The fields of memories that are not signed. -/
def MemWide (H : HwT) : Prop := ∀ x ∈ H.Mems, u64I x.Base
theorem align_ref {H : HwT} (hw : MemWide H) (hr : regionsRB H = true) : (H.Mems.all memAR && H.Devs.all devAB) = alignRB H := by
  have : H.Mems.all memAR = H.Mems.all memAB := by
    unfold regionsRB at hr
    simp only [Bool.and_eq_true, List.all_eq_true] at hr
    rw [Bool.eq_iff_iff, List.all_eq_true, List.all_eq_true]
    have key : ∀ x ∈ H.Mems, memAR x = memAB x := fun x hx => by
      have h1 := hr.1 x hx
      simp only [memRB, inSpaceB, Bool.and_eq_true, decide_eq_true_eq] at h1
      exact align_eq (hw x hx) (by omega)
    exact ⟨fun h x hx => by rw [← key x hx]; exact h x hx, fun h x hx => by rw [key x hx]; exact h x hx⟩
  unfold alignRB
  rw [this]
end Go.Proofs.YteiijmclobggjaaGreat
end
/- The reference's overlap (printed by gen_rv6.py). -/
section
open Go Mk
namespace Go.Proofs.YteiijmclobggjaaGreat
set_option maxHeartbeats 16000000
attribute [local irreducible] Calls
def rowsF (E : List (Int × Int)) : List (List Value) := E.map fun p => [.int .u64 p.1]
def rowsS (E : List (Int × Int)) : List (List Value) := E.map fun p => [.int .u64 p.2]
def memE (m : MemT) : Int × Int := (m.Base, m.Size)
def devE (m : DevT) : Int × Int := (m.Base, m.Size)
def endE (p : Int × Int) : Int × Int := (p.1, IntKind.u64.wrap (p.1 + p.2))
theorem rowsF_snoc {α : Type} {f : α → Int × Int} {l : List α} {L : List (Int × Int)} {k : Nat} {x : α} (hx : l[k]? = some x) : rowsF (L ++ (l.take k).map f) ++ [[.int .u64 (f x).1]] = rowsF (L ++ (l.take (k + 1)).map f) := by rw [take_succ_of hx]; simp [rowsF]
theorem rowsS_snoc {α : Type} {f : α → Int × Int} {l : List α} {L : List (Int × Int)} {k : Nat} {x : α} (hx : l[k]? = some x) : rowsS (L ++ (l.take k).map f) ++ [[.int .u64 (f x).2]] = rowsS (L ++ (l.take (k + 1)).map f) := by rw [take_succ_of hx]; simp [rowsS]
theorem regs_E (H : HwT) : regs H = (H.Mems.map memE ++ H.Devs.map devE).map endE := by
  unfold regs
  rw [List.map_append, List.map_map, List.map_map]; rfl
theorem overlap_any {Γ : Gho} {S : List Res} {w : World} {u : Value} {H : HwT} [hh : HwR Γ u H] (hcnt : countsB H = true) (hw : Wd Γ S w) : Calls Tryz.prog 53 #[u] w fun e w' => e = .returned (.bool (!disjB H)) ∧ Wd Γ S w' := by
  obtain ⟨-, l1, l2, l3, l4, l5⟩ := counts_le hcnt
  obtain ⟨a1, n1, c1, a2, n2, c2, a3, n3, c3, a4, n4, c4, a5, n5, c5, cs, rfl, hcs, hok, hsz, r1, r2, r3, r4, r5⟩ := hh.h
  obtain ⟨hn4, hm4, hx4⟩ := rep_facts r4
  obtain ⟨hn5, hm5, hx5⟩ := rep_facts r5
  simp only [List.length_map] at hn4 hn5
  refine calls_of_W Tryz.func53 rfl rfl ?_
  repeat (first | refine byW ?_ | (refine byV ?_; intro w hw))
  refine lBox ?_
  intro b1 w hw
  have hw := Wd.addNil (a := none) (E := 63) (sz := 1) (Wd.addNil (a := none) (E := 63) (sz := 1) hw)
  have hw : Wd Γ (.own (.slice none 0 0) 63 1 (rowsF (([] : List (Int × Int)) ++ (H.Mems.take 0).map memE)) :: .own (.slice none 0 0) 63 1 (rowsS (([] : List (Int × Int)) ++ (H.Mems.take 0).map memE)) :: .blk b1 (hwC H a1 n1 c1 a2 n2 c2 a3 n3 c3 a4 n4 c4 a5 n5 c5) :: S) w := hw
  repeat (first | refine byW ?_ | (refine byV ?_; intro w hw))
  refine W_loop (fun μ ρ w => ∃ (k : Nat) (vb vs : Value), μ + k = n4 ∧ Has ρ [(1, .pointer (some ⟨b1, 0, none⟩)), (3, vb), (4, vs), (5, .int .i64 k)] ∧ Wd Γ (.own vb 63 1 (rowsF (([] : List (Int × Int)) ++ (H.Mems.take k).map memE)) :: .own vs 63 1 (rowsS (([] : List (Int × Int)) ++ (H.Mems.take k).map memE)) :: .blk b1 (hwC H a1 n1 c1 a2 n2 c2 a3 n3 c3 a4 n4 c4 a5 n5 c5) :: S) w) n4 ⟨0, _, _, by omega, ⟨rfl, rfl, rfl, rfl, trivial⟩, hw⟩ ?_
  clear hw
  rintro μ ρ w ⟨k, vb, vs, hk, hρ, hw⟩
  rw [hρ.eq]
  clear hρ
  repeat (first | refine byW ?_ | (refine byV ?_; intro w hw))
  refine W_cond rfl (fun h => ?_) (fun h => ?_)
  · have hkn : k < n4 := by have := of_decide_eq_true h; omega
    obtain ⟨x, hx⟩ := get_lt (l := H.Mems) (k := k) (by omega)
    obtain ⟨ab, mb, db, rfl, hmb, -, -⟩ := hw.own_shape (i := 0) rfl
    obtain ⟨as', ms, ds, rfl, hms, -, -⟩ := hw.own_shape (i := 1) rfl
    simp only [rowsF, rowsS, List.length_map, List.length_append, List.length_nil, List.length_take] at hmb hms
    repeat (first | refine byW ?_ | (refine byV ?_; intro w hw))
    refine lBuildSlice [[.int .u64 (memE x).1]] ?_
    intro at' w hw
    refine lApp (i := 1) (rows2 := [[.int .u64 (memE x).1]]) ?_ (Wd.own_rd (i := 0) hw rfl)
    intro vb' w hw
    have hw : Wd Γ (.own vb' 63 1 (rowsF (([] : List (Int × Int)) ++ (H.Mems.take (k + 1)).map memE)) :: .own (.slice as' ms ds) 63 1 (rowsS (([] : List (Int × Int)) ++ (H.Mems.take k).map memE)) :: .blk b1 (hwC H a1 n1 c1 a2 n2 c2 a3 n3 c3 a4 n4 c4 a5 n5 c5) :: S) w := by
      rw [← rowsF_snoc hx]; exact hw.drop
    repeat (first | refine byW ?_ | (refine byV ?_; intro w hw))
    refine lBuildSlice [[.int .u64 (memE x).2]] ?_
    intro at' w hw
    refine lApp (i := 2) (rows2 := [[.int .u64 (memE x).2]]) ?_ (Wd.own_rd (i := 0) hw rfl)
    intro vs' w hw
    have hw : Wd Γ (.own vb' 63 1 (rowsF (([] : List (Int × Int)) ++ (H.Mems.take (k + 1)).map memE)) :: .own vs' 63 1 (rowsS (([] : List (Int × Int)) ++ (H.Mems.take (k + 1)).map memE)) :: .blk b1 (hwC H a1 n1 c1 a2 n2 c2 a3 n3 c3 a4 n4 c4 a5 n5 c5) :: S) w := by
      rw [← rowsS_snoc hx]; exact hw.drop
    repeat (first | refine byW ?_ | (refine byV ?_; intro w hw))
    exact ⟨μ - 1, by omega, k + 1, _, _, by omega, ⟨rfl, rfl, rfl, rfl, trivial⟩, hw⟩
  have hkn : ¬ k < n4 := by have := of_decide_eq_false h; omega
  rw [List.take_of_length_le (l := H.Mems) (by omega)] at hw
  clear h hkn hk
  rw [List.nil_append, show H.Mems.map memE = H.Mems.map memE ++ (H.Devs.take 0).map devE from by simp] at hw
  repeat (first | refine byW ?_ | (refine byV ?_; intro w hw))
  refine W_loop (fun μ ρ w => ∃ (k : Nat) (vb vs : Value), μ + k = n5 ∧ Has ρ [(1, .pointer (some ⟨b1, 0, none⟩)), (3, vb), (4, vs), (6, .int .i64 k)] ∧ Wd Γ (.own vb 63 1 (rowsF (H.Mems.map memE ++ (H.Devs.take k).map devE)) :: .own vs 63 1 (rowsS (H.Mems.map memE ++ (H.Devs.take k).map devE)) :: .blk b1 (hwC H a1 n1 c1 a2 n2 c2 a3 n3 c3 a4 n4 c4 a5 n5 c5) :: S) w) n5 ⟨0, _, _, by omega, ⟨rfl, rfl, rfl, rfl, trivial⟩, hw⟩ ?_
  clear hw
  rintro μ ρ w ⟨k, vb, vs, hk, hρ, hw⟩
  rw [hρ.eq]
  clear hρ
  repeat (first | refine byW ?_ | (refine byV ?_; intro w hw))
  refine W_cond rfl (fun h => ?_) (fun h => ?_)
  · have hkn : k < n5 := by have := of_decide_eq_true h; omega
    obtain ⟨x, hx⟩ := get_lt (l := H.Devs) (k := k) (by omega)
    obtain ⟨ab, mb, db, rfl, hmb, -, -⟩ := hw.own_shape (i := 0) rfl
    obtain ⟨as', ms, ds, rfl, hms, -, -⟩ := hw.own_shape (i := 1) rfl
    simp only [rowsF, rowsS, List.length_map, List.length_append, List.length_nil, List.length_take] at hmb hms
    repeat (first | refine byW ?_ | (refine byV ?_; intro w hw))
    refine lBuildSlice [[.int .u64 (devE x).1]] ?_
    intro at' w hw
    refine lApp (i := 1) (rows2 := [[.int .u64 (devE x).1]]) ?_ (Wd.own_rd (i := 0) hw rfl)
    intro vb' w hw
    have hw : Wd Γ (.own vb' 63 1 (rowsF (H.Mems.map memE ++ (H.Devs.take (k + 1)).map devE)) :: .own (.slice as' ms ds) 63 1 (rowsS (H.Mems.map memE ++ (H.Devs.take k).map devE)) :: .blk b1 (hwC H a1 n1 c1 a2 n2 c2 a3 n3 c3 a4 n4 c4 a5 n5 c5) :: S) w := by
      rw [← rowsF_snoc hx]; exact hw.drop
    repeat (first | refine byW ?_ | (refine byV ?_; intro w hw))
    refine lBuildSlice [[.int .u64 (devE x).2]] ?_
    intro at' w hw
    refine lApp (i := 2) (rows2 := [[.int .u64 (devE x).2]]) ?_ (Wd.own_rd (i := 0) hw rfl)
    intro vs' w hw
    have hw : Wd Γ (.own vb' 63 1 (rowsF (H.Mems.map memE ++ (H.Devs.take (k + 1)).map devE)) :: .own vs' 63 1 (rowsS (H.Mems.map memE ++ (H.Devs.take (k + 1)).map devE)) :: .blk b1 (hwC H a1 n1 c1 a2 n2 c2 a3 n3 c3 a4 n4 c4 a5 n5 c5) :: S) w := by
      rw [← rowsS_snoc hx]; exact hw.drop
    repeat (first | refine byW ?_ | (refine byV ?_; intro w hw))
    exact ⟨μ - 1, by omega, k + 1, _, _, by omega, ⟨rfl, rfl, rfl, rfl, trivial⟩, hw⟩
  have hkn : ¬ k < n5 := by have := of_decide_eq_false h; omega
  rw [List.take_of_length_le (l := H.Devs) (by omega)] at hw
  clear h hkn hk
  have hregs := regs_E H
  have hel : (H.Mems.map memE ++ H.Devs.map devE).length ≤ 96 := by simp; omega
  generalize H.Mems.map memE ++ H.Devs.map devE = E at *
  obtain ⟨ab, mb, db, rfl, hmb, -, -⟩ := hw.own_shape (i := 0) rfl
  obtain ⟨as', ms, ds, rfl, hms, -, -⟩ := hw.own_shape (i := 1) rfl
  simp only [rowsF, rowsS, List.length_map] at hmb hms
  have hms' : ms = mb := by omega
  subst hms'
  have hw : Wd Γ (.own (.slice ab ms db) 63 1 (rowsF E) :: .own (.slice as' ms ds) 63 1 (rowsS E) :: .blk b1 (hwC H a1 n1 c1 a2 n2 c2 a3 n3 c3 a4 n4 c4 a5 n5 c5) :: S) w := hw
  repeat (first | refine byW ?_ | (refine byV ?_; intro w hw))
  refine W_loop (fun μ ρ w => ∃ (i : Nat), μ + i = ms ∧ Has ρ [(3, .slice ab ms db), (4, .slice as' ms ds), (7, .int .i64 i)] ∧ (∀ (i' k : Nat) (a b : Int × Int), i' < i → k < i' → E[i']? = some a → E[k]? = some b → apartB (endE a) (endE b) = true) ∧ Wd Γ (.own (.slice ab ms db) 63 1 (rowsF E) :: .own (.slice as' ms ds) 63 1 (rowsS E) :: .blk b1 (hwC H a1 n1 c1 a2 n2 c2 a3 n3 c3 a4 n4 c4 a5 n5 c5) :: S) w) ms ⟨0, by omega, ⟨rfl, rfl, rfl, trivial⟩, fun i' k a b h => by omega, hw⟩ ?_
  clear hw
  rintro μ ρ w ⟨i, hi, hρ, hall, hw⟩
  rw [hρ.eq]
  clear hρ
  repeat (first | refine byW ?_ | (refine byV ?_; intro w hw))
  refine W_cond rfl (fun h => ?_) (fun h => ?_)
  · have hin : i < ms := by have := of_decide_eq_true h; omega
    clear h
    obtain ⟨x, hx⟩ := get_lt (l := E) (k := i) (by omega)
    have hxf : (rowsF E)[i]? = some [.int .u64 x.1] := by unfold rowsF; rw [List.getElem?_map, hx]; rfl
    have hxs : (rowsS E)[i]? = some [.int .u64 x.2] := by unfold rowsS; rw [List.getElem?_map, hx]; rfl
    repeat (first | refine byW ?_ | (refine byV ?_; intro w hw))
    refine W_loop (fun μ2 ρ w => ∃ (k : Nat), μ2 + k = i ∧ Has ρ [(3, .slice ab ms db), (4, .slice as' ms ds), (7, .int .i64 i), (8, .int .i64 k)] ∧ (∀ (j : Nat) (b : Int × Int), j < k → E[j]? = some b → apartB (endE x) (endE b) = true) ∧ Wd Γ (.own (.slice ab ms db) 63 1 (rowsF E) :: .own (.slice as' ms ds) 63 1 (rowsS E) :: .blk b1 (hwC H a1 n1 c1 a2 n2 c2 a3 n3 c3 a4 n4 c4 a5 n5 c5) :: S) w) i ⟨0, by omega, ⟨rfl, rfl, rfl, rfl, trivial⟩, fun j b h => by omega, hw⟩ ?_
    clear hw
    rintro μ2 ρ w ⟨k, hk, hρ, hall2, hw⟩
    rw [hρ.eq]
    clear hρ
    repeat (first | refine byW ?_ | (refine byV ?_; intro w hw))
    refine W_cond rfl (fun h2 => ?_) (fun h2 => ?_)
    · have hki : k < i := by have := of_decide_eq_true h2; omega
      clear h2
      obtain ⟨y, hy⟩ := get_lt (l := E) (k := k) (by omega)
      unfold rowsF rowsS at hw
      repeat (first | refine byW ?_ | (refine byV ?_; intro w hw))
      refine W_quiet (by kernel_rfl) (by kernel_rfl) hw ?_
      repeat (first | refine Q_nil ?_ | (apply Q_plain; first | (apply Q_go; first | refine qP ?_ | refine qPg ?_) | refine qY ?_) | (apply Q_guarded; first | (apply Q_go; first | refine qPG ?_ | refine qPgG ?_) | refine qG ?_))
      intro w hw
      have hw : Wd Γ (.own (.slice ab ms db) 63 1 (rowsF E) :: .own (.slice as' ms ds) 63 1 (rowsS E) :: .blk b1 (hwC H a1 n1 c1 a2 n2 c2 a3 n3 c3 a4 n4 c4 a5 n5 c5) :: S) w := hw
      refine W_cond rfl (fun h3 => ?_) (fun h3 => ?_)
      · have hp : apartB (endE x) (endE y) = false := by unfold apartB; exact congrArg (fun b => !b) h3
        repeat (first | refine byW ?_ | (refine byV ?_; intro w hw))
        refine ⟨_, rfl, ret_b rfl ?_, hw.drop.drop.drop⟩
        have : disjB H = false := decP_f fun hP => by
          have h5 := hP i k (endE x) (endE y) hki (by rw [hregs, List.getElem?_map, hx]; rfl) (by rw [hregs, List.getElem?_map, hy]; rfl)
          rw [h5] at hp; cases hp
        rw [this]; rfl
      · have hp : apartB (endE x) (endE y) = true := by unfold apartB; exact congrArg (fun b => !b) h3
        repeat (first | refine byW ?_ | (refine byV ?_; intro w hw))
        refine ⟨μ2 - 1, by omega, k + 1, by omega, ⟨rfl, rfl, rfl, rfl, trivial⟩, fun j b hj hb => ?_, hw⟩
        by_cases e : j = k
        · subst e; rw [hy] at hb; cases hb; exact hp
        · exact hall2 j b (by omega) hb
    · have hki : ¬ k < i := by have := of_decide_eq_false h2; omega
      repeat (first | refine byW ?_ | (refine byV ?_; intro w hw))
      refine ⟨μ - 1, by omega, i + 1, by omega, ⟨rfl, rfl, rfl, trivial⟩, fun i' j a b h1 h3 ha hb => ?_, hw⟩
      by_cases e : i' = i
      · subst e; rw [hx] at ha; cases ha
        exact hall2 j b (by omega) hb
      · exact hall i' j a b (by omega) h3 ha hb
  · have hin : ¬ i < ms := by have := of_decide_eq_false h; omega
    repeat (first | refine byW ?_ | (refine byV ?_; intro w hw))
    refine ⟨_, rfl, ret_b rfl ?_, hw.drop.drop.drop⟩
    have : disjB H = true := decP_t fun p q a b hpq ha hb => by
      rw [hregs, List.getElem?_map] at ha hb
      cases ha' : E[p]? with
      | none => rw [ha'] at ha; cases ha
      | some a' =>
        cases hb' : E[q]? with
        | none => rw [hb'] at hb; cases hb
        | some b' =>
          rw [ha'] at ha; rw [hb'] at hb; cases ha; cases hb
          exact hall p q a' b' (by have := (List.getElem?_eq_some_iff.1 ha').1; omega) hpq ha' hb'
    rw [this]; rfl
end Go.Proofs.YteiijmclobggjaaGreat
end
/- The reference's Used and CoreAt (the same text as parts of Z33 and Z34: never import both). -/
section
open Go Mk
namespace Go.Proofs.YteiijmclobggjaaGreat
set_option maxHeartbeats 16000000
attribute [local irreducible] Calls
/-- The nodes that are marked. -/
def markN (R : List Bool) (xs : List Int) : List Bool := xs.foldl (fun R n => R.set n.toNat true) R
theorem markN_len : ∀ (xs : List Int) (R : List Bool), (markN R xs).length = R.length
  | [], R => rfl
  | x :: xs, R => by show (markN (R.set x.toNat true) xs).length = _; rw [markN_len xs]; simp
theorem markN_app (R : List Bool) (xs ys : List Int) : markN R (xs ++ ys) = markN (markN R xs) ys := by unfold markN; rw [List.foldl_append]
theorem markN_get : ∀ (xs : List Int) (R : List Bool) (k : Nat), (markN R xs)[k]? = some false → R[k]? = some false ∧ ∀ x ∈ xs, x.toNat ≠ k
  | [], R, k, h => ⟨h, by simp⟩
  | x :: xs, R, k, h => by
    obtain ⟨h1, h2⟩ := markN_get xs (R.set x.toNat true) k h
    rw [List.getElem?_set] at h1
    by_cases e : x.toNat = k
    · rw [if_pos e] at h1
      split at h1 <;> simp at h1
    · rw [if_neg e] at h1
      exact ⟨h1, fun y hy => by
        rcases List.mem_cons.1 hy with rfl | hy
        · exact e
        · exact h2 y hy⟩
theorem mark_step {α : Type} {f : α → Int} {l : List α} {R : List Bool} {L : List Int} {k : Nat} {x : α} (hx : l[k]? = some x) : (markN R (L ++ (l.take k).map f)).set (f x).toNat true = markN R (L ++ (l.take (k + 1)).map f) := by
  rw [take_succ_of hx, List.map_append, ← List.append_assoc, markN_app _ (L ++ (l.take k).map f)]; rfl
abbrev R64 : List Bool := List.replicate 64 false
abbrev hwCells (s : ByteArray) (a1 : Option Addr) (n1 c1 : Nat) (a2 : Option Addr) (n2 c2 : Nat) (a3 : Option Addr) (n3 c3 : Nat) (a4 : Option Addr) (n4 c4 : Nat) (a5 : Option Addr) (n5 c5 : Nat) : Obj := .cells #[.string s, .slice a1 n1 c1, .slice a2 n2 c2, .slice a3 n3 c3, .slice a4 n4 c4, .slice a5 n5 c5] 28
theorem rdS_facts {Γ : Gho} {S : List Res} {a : Option Addr} {n c sz : Nat} {rows : List (List Value)} (h : RdS Γ S (.slice a n c) sz rows) : n = rows.length ∧ n ≤ c ∧ c ≤ 9223372036854775807 := by
  obtain ⟨a', n', c', e, h1, h2, h3⟩ := h.shape
  cases e; exact ⟨h1, h2, h3⟩
theorem Used_any {Γ : Gho} {S : List Res} {w : World} {H : HwT} {s : ByteArray} {a1 : Option Addr} {n1 c1 : Nat} {a2 : Option Addr} {n2 c2 : Nat} {a3 : Option Addr} {n3 c3 : Nat} {a4 : Option Addr} {n4 c4 : Nat} {a5 : Option Addr} {n5 c5 : Nat} (r1 : RdS Γ S (.slice a1 n1 c1) 4 (H.Cores.map enc)) (r4 : RdS Γ S (.slice a4 n4 c4) 5 (H.Mems.map enc)) (r5 : RdS Γ S (.slice a5 n5 c5) 5 (H.Devs.map enc)) (hN : ∀ n ∈ usedN H, 0 ≤ n ∧ n < 64) (hw : Wd Γ S w) :
    Calls Tryz.prog 80 #[(.agg #[.string s, .slice a1 n1 c1, .slice a2 n2 c2, .slice a3 n3 c3, .slice a4 n4 c4, .slice a5 n5 c5])] w fun e w' => e = .returned (.agg ((markN R64 (usedN H)).map Value.bool).toArray) ∧ Wd Γ S w' := by
  obtain ⟨hn1, hm1, hx1⟩ := rdS_facts r1
  obtain ⟨hn4, hm4, hx4⟩ := rdS_facts r4
  obtain ⟨hn5, hm5, hx5⟩ := rdS_facts r5
  simp only [List.length_map] at hn1 hn4 hn5
  refine calls_of_WC Tryz.func80 rfl rfl ?_
  repeat (first | refine byW ?_ | (refine byV ?_; intro w hw))
  refine lBox ?_
  intro b1 w hw
  refine lAlloc ?_
  intro b2 w hw
  repeat (first | refine byW ?_ | (refine byV ?_; intro w hw))
  refine lAlloc ?_
  intro b3 w hw
  have hw : Wd Γ (.blk b3 (.cells ((markN R64 ([] ++ (H.Cores.take 0).map (fun c => c.Node))).map Value.bool).toArray 128) :: .blk b2 (.cells (R64.map Value.bool).toArray 128) :: .blk b1 (hwCells s a1 n1 c1 a2 n2 c2 a3 n3 c3 a4 n4 c4 a5 n5 c5) :: S) w := hw
  repeat (first | refine byW ?_ | (refine byV ?_; intro w hw))
  refine W_loop (fun μ ρ w => ∃ (k : Nat), μ + k = n1 ∧ Has ρ [(1, .pointer (some ⟨b1, 0, none⟩)), (2, .pointer (some ⟨b2, 0, none⟩)), (3, .pointer (some ⟨b3, 0, none⟩)), (4, .int .i64 (k : Nat))] ∧ Wd Γ (.blk b3 (.cells ((markN R64 ([] ++ (H.Cores.take k).map (fun c => c.Node))).map Value.bool).toArray 128) :: .blk b2 (.cells (R64.map Value.bool).toArray 128) :: .blk b1 (hwCells s a1 n1 c1 a2 n2 c2 a3 n3 c3 a4 n4 c4 a5 n5 c5) :: S) w) n1 ⟨0, by omega, ⟨rfl, rfl, rfl, rfl, trivial⟩, hw⟩ ?_
  clear hw
  rintro μ ρ w ⟨k, hk, hρ, hw⟩
  rw [hρ.eq]
  have q1 : RdS Γ (.blk b3 (.cells ((markN R64 ([] ++ (H.Cores.take k).map (fun c => c.Node))).map Value.bool).toArray 128) :: .blk b2 (.cells (R64.map Value.bool).toArray 128) :: .blk b1 (hwCells s a1 n1 c1 a2 n2 c2 a3 n3 c3 a4 n4 c4 a5 n5 c5) :: S) (.slice a1 n1 c1) 4 (H.Cores.map enc) := r1.cons.cons.cons
  repeat (first | refine byW ?_ | (refine byV ?_; intro w hw))
  refine W_cond rfl (fun h => ?_) (fun h => ?_)
  · have hkn : k < n1 := by simpa using h
    obtain ⟨x, hx⟩ := get_lt (l := H.Cores) (k := k) (by omega)
    obtain ⟨hx0, hx1'⟩ := hN x.Node (List.mem_append_left _ (List.mem_append_left _ (List.mem_map_of_mem (List.mem_of_getElem? hx))))
    repeat (first | refine byW ?_ | (refine byV ?_; intro w hw))
    refine lStore (o := 0 + x.Node.toNat * 1) (ho := by simp [markN_len]; omega) ?_
    intro w hw
    have hw : Wd Γ (.blk b3 (.cells (putCells ((markN R64 ([] ++ (H.Cores.take k).map (fun c => c.Node))).map Value.bool).toArray (0 + x.Node.toNat * 1) [.bool true]) 128) :: .blk b2 (.cells (R64.map Value.bool).toArray 128) :: .blk b1 (hwCells s a1 n1 c1 a2 n2 c2 a3 n3 c3 a4 n4 c4 a5 n5 c5) :: S) w := hw
    rw [putBool (by simp [markN_len]; omega), mark_step (f := fun c => c.Node) hx] at hw
    clear q1
    repeat (first | refine byW ?_ | (refine byV ?_; intro w hw))
    exact ⟨μ - 1, by omega, k + 1, by omega, ⟨rfl, rfl, rfl, rfl, trivial⟩, hw⟩
  have hkn : ¬ k < n1 := by simpa using h
  rw [List.take_of_length_le (l := H.Cores) (by omega)] at hw
  clear h hkn hρ hk q1
  rw [show [] ++ H.Cores.map (fun c => c.Node) = H.Cores.map (fun c => c.Node) ++ (H.Mems.take 0).map (fun c => c.Node) from by simp] at hw
  repeat (first | refine byW ?_ | (refine byV ?_; intro w hw))
  refine W_loop (fun μ ρ w => ∃ (k : Nat), μ + k = n4 ∧ Has ρ [(1, .pointer (some ⟨b1, 0, none⟩)), (2, .pointer (some ⟨b2, 0, none⟩)), (3, .pointer (some ⟨b3, 0, none⟩)), (5, .int .i64 (k : Nat))] ∧ Wd Γ (.blk b3 (.cells ((markN R64 (H.Cores.map (fun c => c.Node) ++ (H.Mems.take k).map (fun c => c.Node))).map Value.bool).toArray 128) :: .blk b2 (.cells (R64.map Value.bool).toArray 128) :: .blk b1 (hwCells s a1 n1 c1 a2 n2 c2 a3 n3 c3 a4 n4 c4 a5 n5 c5) :: S) w) n4 ⟨0, by omega, ⟨rfl, rfl, rfl, rfl, trivial⟩, hw⟩ ?_
  clear hw
  rintro μ ρ w ⟨k, hk, hρ, hw⟩
  rw [hρ.eq]
  have q1 : RdS Γ (.blk b3 (.cells ((markN R64 (H.Cores.map (fun c => c.Node) ++ (H.Mems.take k).map (fun c => c.Node))).map Value.bool).toArray 128) :: .blk b2 (.cells (R64.map Value.bool).toArray 128) :: .blk b1 (hwCells s a1 n1 c1 a2 n2 c2 a3 n3 c3 a4 n4 c4 a5 n5 c5) :: S) (.slice a4 n4 c4) 5 (H.Mems.map enc) := r4.cons.cons.cons
  repeat (first | refine byW ?_ | (refine byV ?_; intro w hw))
  refine W_cond rfl (fun h => ?_) (fun h => ?_)
  · have hkn : k < n4 := by simpa using h
    obtain ⟨x, hx⟩ := get_lt (l := H.Mems) (k := k) (by omega)
    obtain ⟨hx0, hx1'⟩ := hN x.Node (List.mem_append_left _ (List.mem_append_right _ (List.mem_map_of_mem (List.mem_of_getElem? hx))))
    repeat (first | refine byW ?_ | (refine byV ?_; intro w hw))
    refine lStore (o := 0 + x.Node.toNat * 1) (ho := by simp [markN_len]; omega) ?_
    intro w hw
    have hw : Wd Γ (.blk b3 (.cells (putCells ((markN R64 (H.Cores.map (fun c => c.Node) ++ (H.Mems.take k).map (fun c => c.Node))).map Value.bool).toArray (0 + x.Node.toNat * 1) [.bool true]) 128) :: .blk b2 (.cells (R64.map Value.bool).toArray 128) :: .blk b1 (hwCells s a1 n1 c1 a2 n2 c2 a3 n3 c3 a4 n4 c4 a5 n5 c5) :: S) w := hw
    rw [putBool (by simp [markN_len]; omega), mark_step (f := fun c => c.Node) hx] at hw
    clear q1
    repeat (first | refine byW ?_ | (refine byV ?_; intro w hw))
    exact ⟨μ - 1, by omega, k + 1, by omega, ⟨rfl, rfl, rfl, rfl, trivial⟩, hw⟩
  have hkn : ¬ k < n4 := by simpa using h
  rw [List.take_of_length_le (l := H.Mems) (by omega)] at hw
  clear h hkn hρ hk q1
  rw [show H.Cores.map (fun c => c.Node) ++ H.Mems.map (fun c => c.Node) = (H.Cores.map (fun c => c.Node) ++ H.Mems.map (fun c => c.Node)) ++ (H.Devs.take 0).map (fun c => c.Node) from by simp] at hw
  repeat (first | refine byW ?_ | (refine byV ?_; intro w hw))
  refine W_loop (fun μ ρ w => ∃ (k : Nat), μ + k = n5 ∧ Has ρ [(1, .pointer (some ⟨b1, 0, none⟩)), (2, .pointer (some ⟨b2, 0, none⟩)), (3, .pointer (some ⟨b3, 0, none⟩)), (6, .int .i64 (k : Nat))] ∧ Wd Γ (.blk b3 (.cells ((markN R64 ((H.Cores.map (fun c => c.Node) ++ H.Mems.map (fun c => c.Node)) ++ (H.Devs.take k).map (fun c => c.Node))).map Value.bool).toArray 128) :: .blk b2 (.cells (R64.map Value.bool).toArray 128) :: .blk b1 (hwCells s a1 n1 c1 a2 n2 c2 a3 n3 c3 a4 n4 c4 a5 n5 c5) :: S) w) n5 ⟨0, by omega, ⟨rfl, rfl, rfl, rfl, trivial⟩, hw⟩ ?_
  clear hw
  rintro μ ρ w ⟨k, hk, hρ, hw⟩
  rw [hρ.eq]
  have q1 : RdS Γ (.blk b3 (.cells ((markN R64 ((H.Cores.map (fun c => c.Node) ++ H.Mems.map (fun c => c.Node)) ++ (H.Devs.take k).map (fun c => c.Node))).map Value.bool).toArray 128) :: .blk b2 (.cells (R64.map Value.bool).toArray 128) :: .blk b1 (hwCells s a1 n1 c1 a2 n2 c2 a3 n3 c3 a4 n4 c4 a5 n5 c5) :: S) (.slice a5 n5 c5) 5 (H.Devs.map enc) := r5.cons.cons.cons
  repeat (first | refine byW ?_ | (refine byV ?_; intro w hw))
  refine W_cond rfl (fun h => ?_) (fun h => ?_)
  · have hkn : k < n5 := by simpa using h
    obtain ⟨x, hx⟩ := get_lt (l := H.Devs) (k := k) (by omega)
    obtain ⟨hx0, hx1'⟩ := hN x.Node (List.mem_append_right _ (List.mem_map_of_mem (List.mem_of_getElem? hx)))
    repeat (first | refine byW ?_ | (refine byV ?_; intro w hw))
    refine lStore (o := 0 + x.Node.toNat * 1) (ho := by simp [markN_len]; omega) ?_
    intro w hw
    have hw : Wd Γ (.blk b3 (.cells (putCells ((markN R64 ((H.Cores.map (fun c => c.Node) ++ H.Mems.map (fun c => c.Node)) ++ (H.Devs.take k).map (fun c => c.Node))).map Value.bool).toArray (0 + x.Node.toNat * 1) [.bool true]) 128) :: .blk b2 (.cells (R64.map Value.bool).toArray 128) :: .blk b1 (hwCells s a1 n1 c1 a2 n2 c2 a3 n3 c3 a4 n4 c4 a5 n5 c5) :: S) w := hw
    rw [putBool (by simp [markN_len]; omega), mark_step (f := fun c => c.Node) hx] at hw
    clear q1
    repeat (first | refine byW ?_ | (refine byV ?_; intro w hw))
    exact ⟨μ - 1, by omega, k + 1, by omega, ⟨rfl, rfl, rfl, rfl, trivial⟩, hw⟩
  have hkn : ¬ k < n5 := by simpa using h
  rw [List.take_of_length_le (l := H.Devs) (by omega)] at hw
  clear h hkn hρ hk q1
  repeat (first | refine byW ?_ | (refine byV ?_; intro w hw))
  have hl : (markN R64 (usedN H)).length = 64 := by rw [markN_len]; simp
  obtain ⟨R, hR⟩ : ∃ R, R = markN R64 (usedN H) := ⟨_, rfl⟩
  have hw : Wd Γ (.blk b3 (.cells (R.map Value.bool).toArray 128) :: .blk b2 (.cells (R64.map Value.bool).toArray 128) :: .blk b1 (hwCells s a1 n1 c1 a2 n2 c2 a3 n3 c3 a4 n4 c4 a5 n5 c5) :: S) w := by rw [hR]; exact hw
  rw [← hR] at hl ⊢
  refine lY (v := .agg (R.map Value.bool).toArray) ?_ (hy := y_lwb (i := 0) hw rfl rfl (by simp [hl]))
  refine lStore (vs := R.map Value.bool) ?_ (hl := by simp [hl]) (h1 := by simp [Value.oneCell']) (ho := by simp) (hv := by simp [Value.cells])
  intro w hw
  have hw : Wd Γ (.blk b3 (.cells (R.map Value.bool).toArray 128) :: .blk b2 (.cells (putCells (R64.map Value.bool).toArray 0 (R.map Value.bool)) 128) :: .blk b1 (hwCells s a1 n1 c1 a2 n2 c2 a3 n3 c3 a4 n4 c4 a5 n5 c5) :: S) w := hw
  rw [show putCells (R64.map Value.bool).toArray 0 (R.map Value.bool) = (R.map Value.bool).toArray from by unfold putCells; simp [hl]] at hw
  repeat (first | refine byW ?_ | (refine byV ?_; intro w hw))
  exact ⟨[.agg (R.map Value.bool).toArray], ⟨resC (i := 1) hw rfl rfl (by simp [hl]), trivial⟩, rfl, hw.drop.drop.drop⟩
/-- The place of the first core with an ID, or -1. -/
def coreAt (l : List CoreT) (id : Int) : Int := match l.findIdx? (fun x => decide (x.ID = id)) with | some k => k | none => -1
theorem coreAt_some {l : List CoreT} {id : Int} {k : Nat} {x : CoreT} (hx : l[k]? = some x) (he : x.ID = id) (hl : ∀ j y, j < k → l[j]? = some y → y.ID ≠ id) : coreAt l id = k := by
  have : l.findIdx? (fun x => decide (x.ID = id)) = some k := by
    obtain ⟨hk, hg⟩ := List.getElem?_eq_some_iff.1 hx
    rw [List.findIdx?_eq_some_iff_getElem]
    refine ⟨hk, by rw [hg]; simpa using he, fun j hj => ?_⟩
    have := hl j l[j] hj (List.getElem?_eq_getElem _)
    simpa using this
  unfold coreAt; rw [this]
theorem coreAt_none {l : List CoreT} {id : Int} (hl : ∀ y ∈ l, y.ID ≠ id) : coreAt l id = -1 := by
  have : l.findIdx? (fun x => decide (x.ID = id)) = none := by
    rw [List.findIdx?_eq_none_iff]
    intro y hy; simpa using hl y hy
  unfold coreAt; rw [this]
theorem coreAt_any {l : List CoreT} {id : Int} : decide (0 ≤ coreAt l id) = l.any fun x => decide (x.ID = id) := by
  unfold coreAt
  cases h : l.findIdx? (fun x => decide (x.ID = id)) with
  | none =>
    rw [List.findIdx?_eq_none_iff] at h
    symm
    show _ = false
    rw [List.any_eq_false]
    intro x hx; simpa using h x hx
  | some k =>
    have h0 : (0 : Int) ≤ (k : Int) := by omega
    show decide ((0 : Int) ≤ (k : Int)) = _
    rw [decide_eq_true h0]
    symm
    obtain ⟨hk, hg, -⟩ := List.findIdx?_eq_some_iff_getElem.1 h
    exact List.any_eq_true.2 ⟨l[k], List.getElem_mem hk, hg⟩
theorem CoreAt_any {Γ : Gho} {S : List Res} {w : World} {l : List CoreT} {u0 u2 u3 u4 u5 : Value} {s : ByteArray} {a1 : Option Addr} {n1 c1 : Nat} {id : Int} (r1 : RdS Γ S (.slice a1 n1 c1) 4 (l.map enc)) (hu : u0 = .agg #[.string s, .slice a1 n1 c1, u2, u3, u4, u5]) (h2 : u2.oneCell' = true) (h3 : u3.oneCell' = true) (h4 : u4.oneCell' = true) (h5 : u5.oneCell' = true) (hw : Wd Γ S w) :
    Calls Tryz.prog 36 #[u0, .int .i64 id] w fun e w' => e = .returned (.int .i64 (coreAt l id)) ∧ Wd Γ S w' := by
  subst hu
  obtain ⟨hn1, hm1, hx1⟩ := rdS_facts r1
  simp only [List.length_map] at hn1
  refine calls_of_W Tryz.func36 rfl rfl ?_
  repeat (first | refine byW ?_ | (refine byV ?_; intro w hw))
  refine lBox ?_
  intro b1 w hw
  have hw : Wd Γ (.blk b1 (.cells (#[.string s, .slice a1 n1 c1, u2, u3, u4, u5] : Array Value) 28) :: S) w := by
    have e : (Value.agg #[.string s, .slice a1 n1 c1, u2, u3, u4, u5]).cells = #[.string s, .slice a1 n1 c1, u2, u3, u4, u5] := rfl
    rw [e] at hw; exact hw
  repeat (first | refine byW ?_ | (refine byV ?_; intro w hw))
  refine W_loop (fun μ ρ w => ∃ (k : Nat), μ + k = n1 ∧ (∀ j y, j < k → l[j]? = some y → y.ID ≠ id) ∧ Has ρ [(1, .int .i64 id), (2, .pointer (some ⟨b1, 0, none⟩)), (5, .int .i64 (k : Nat))] ∧ Wd Γ (.blk b1 (.cells (#[.string s, .slice a1 n1 c1, u2, u3, u4, u5] : Array Value) 28) :: S) w) n1 ⟨0, by omega, by simp, ⟨rfl, rfl, rfl, trivial⟩, hw⟩ ?_
  clear hw
  rintro μ ρ w ⟨k, hk, hj, hρ, hw⟩
  rw [hρ.eq]
  have q1 : RdS Γ (.blk b1 (.cells (#[.string s, .slice a1 n1 c1, u2, u3, u4, u5] : Array Value) 28) :: S) (.slice a1 n1 c1) 4 (l.map enc) := r1.cons
  repeat (first | refine byW ?_ | (refine byV ?_; intro w hw))
  refine W_cond rfl (fun h => ?_) (fun h => ?_)
  · have hkn : k < n1 := by simpa using h
    obtain ⟨x, hx⟩ := get_lt (l := l) (k := k) (by omega)
    repeat (first | refine byW ?_ | (refine byV ?_; intro w hw))
    refine W_cond rfl (fun h2 => ?_) (fun h2 => ?_)
    · rw [coreAt_some hx (of_decide_eq_true h2) hj]
      repeat (first | refine byW ?_ | (refine byV ?_; intro w hw))
      exact ⟨_, rfl, rfl, hw.drop⟩
    · repeat (first | refine byW ?_ | (refine byV ?_; intro w hw))
      refine ⟨μ - 1, by omega, k + 1, by omega, fun j y hjk hy => ?_, ⟨rfl, rfl, rfl, trivial⟩, hw⟩
      rcases Nat.lt_succ_iff_lt_or_eq.1 hjk with hlt | rfl
      · exact hj j y hlt hy
      · rw [hx] at hy; cases hy
        exact of_decide_eq_false h2
  have hkn : ¬ k < n1 := by simpa using h
  rw [coreAt_none (fun y hy => by
    obtain ⟨j, hj2⟩ := List.getElem?_of_mem hy
    exact hj j y (by have := (List.getElem?_eq_some_iff.1 hj2).1; omega) hj2)]
  repeat (first | refine byW ?_ | (refine byV ?_; intro w hw))
  exact ⟨_, rfl, rfl, hw.drop⟩

instance pg_CoreAt {Γ : Gho} {u : Value} {H : HwT} {id : Int} [hh : HwR Γ u H] : PG Tryz.prog Γ 36 [u, .int .i64 id] (.int .i64 (coreAt H.Cores id)) := ⟨fun S w hw => by
  obtain ⟨a1, n1, c1, a2, n2, c2, a3, n3, c3, a4, n4, c4, a5, n5, c5, cs, rfl, -, -, -, r1, -⟩ := hh.h
  exact CoreAt_any r1.rdS rfl rfl rfl rfl rfl hw⟩
end Go.Proofs.YteiijmclobggjaaGreat
end
/- The reference's connected (printed by gen_rv7.py). -/
section
open Go Mk
namespace Go.Proofs.YteiijmclobggjaaGreat
set_option maxHeartbeats 16000000
attribute [local irreducible] Calls
theorem mark_true : ∀ (xs : List Int) (R : List Bool) (k : Nat), (markN R xs)[k]? = some true → R[k]? = some true ∨ ∃ x ∈ xs, x.toNat = k
  | [], R, k, h => .inl h
  | x :: xs, R, k, h => by
    have h : (markN (R.set x.toNat true) xs)[k]? = some true := h
    rcases mark_true xs _ k h with h1 | ⟨y, hy, he⟩
    · by_cases e : x.toNat = k
      · exact .inr ⟨x, by simp, e⟩
      · rw [List.getElem?_set_ne e] at h1; exact .inl h1
    · exact .inr ⟨y, by simp [hy], he⟩
theorem set_true_self {R : List Bool} {k : Nat} (h : R[k]? = some true) : R.set k true = R := by
  obtain ⟨h1, h2⟩ := List.getElem?_eq_some_iff.1 h
  rw [← h2]; exact List.set_getElem_self h1
def ClosedR (ls : List LinkT) (R : List Bool) : Prop := ∀ l ∈ ls, R.getD l.A.toNat false = R.getD l.B.toNat false
theorem connectedR_any {Γ : Gho} {S : List Res} {w : World} {u : Value} {H : HwT} [hh : HwR Γ u H] (hcnt : countsB H = true) (hcr : coresRB H = true) (hrr : regionsRB H = true) (hw : Wd Γ S w) : Calls Tryz.prog 54 #[u] w fun e w' => e = .returned (.bool (connB H)) ∧ Wd Γ S w' := by
  obtain ⟨l0, l1, l2, l3, l4, l5⟩ := counts_le hcnt
  obtain ⟨hNd, hLk⟩ := nodes_in hcr hrr
  obtain ⟨a1, n1, c1, a2, n2, c2, a3, n3, c3, a4, n4, c4, a5, n5, c5, cs, rfl, hcs, hok, hsz, r1, r2, r3, r4, r5⟩ := hh.h
  obtain ⟨hn1, hm1, hx1⟩ := rep_facts r1
  obtain ⟨hn3, hm3, hx3⟩ := rep_facts r3
  simp only [List.length_map] at hn1 hn3
  obtain ⟨x0, hx0⟩ := get_lt (l := H.Cores) (k := 0) (by omega)
  have hhead : (usedN H).headD 0 = x0.Node := by
    refine head_used ?_
    unfold usedN
    rw [List.getElem?_append_left (by simp; omega), List.getElem?_append_left (by simp; omega), List.getElem?_map, hx0]; rfl
  have hs0 : 0 ≤ x0.Node ∧ x0.Node < 64 := hNd x0.Node (by unfold usedN; simp only [List.mem_append]; exact .inl (.inl (List.mem_map_of_mem (List.mem_of_getElem? hx0))))
  obtain ⟨hs00, hs01⟩ := hs0
  have hst : Known H.Links x0.Node ((List.replicate 64 false).set x0.Node.toNat true) := known_start (by omega)
  refine calls_of_W Tryz.func54 rfl rfl ?_
  repeat (first | refine byW ?_ | (refine byV ?_; intro w hw))
  refine lBox ?_
  intro b1 w hw
  repeat (first | refine byW ?_ | (refine byV ?_; intro w hw))
  refine lAlloc ?_
  intro b3 w hw
  have hw : Wd Γ (.blk b3 (.cells ((List.replicate 64 false).map Value.bool).toArray 128) :: .blk b1 (hwC H a1 n1 c1 a2 n2 c2 a3 n3 c3 a4 n4 c4 a5 n5 c5) :: S) w := hw
  repeat (first | refine byW ?_ | (refine byV ?_; intro w hw))
  refine lStore (o := 0 + x0.Node.toNat * 1) (ho := by simp; omega) ?_
  intro w hw
  have hw : Wd Γ (.blk b3 (.cells (putCells ((List.replicate 64 false).map Value.bool).toArray (0 + x0.Node.toNat * 1) [.bool true]) 128) :: .blk b1 (hwC H a1 n1 c1 a2 n2 c2 a3 n3 c3 a4 n4 c4 a5 n5 c5) :: S) w := hw
  rw [putBool (by simp; omega)] at hw
  repeat (first | refine byW ?_ | (refine byV ?_; intro w hw))
  refine W_loop (fun μ ρ w => ∃ (t : Nat) (R : List Bool), μ + t = 64 ∧ Known H.Links x0.Node R ∧ R[x0.Node.toNat]? = some true ∧ (ClosedR H.Links R ∨ R.count false + t ≤ 63) ∧ Has ρ [(1, .pointer (some ⟨b1, 0, none⟩)), (3, .pointer (some ⟨b3, 0, none⟩)), (4, .int .i64 t)] ∧ Wd Γ (.blk b3 (.cells (R.map Value.bool).toArray 128) :: .blk b1 (hwC H a1 n1 c1 a2 n2 c2 a3 n3 c3 a4 n4 c4 a5 n5 c5) :: S) w) 64 ⟨0, _, by omega, hst, by rw [List.getElem?_set_self (by simp; omega)], .inr (by
    have := count_set_lt (R := List.replicate 64 false) (k := x0.Node.toNat) (by rw [List.getElem?_replicate, if_pos (by omega)])
    rw [List.count_replicate_self] at this; omega), ⟨rfl, rfl, rfl, trivial⟩, hw⟩ ?_
  clear hw hst
  rintro μ ρ w ⟨t, R, ht, hkn, hR0, hcl, hρ, hw⟩
  rw [hρ.eq]
  clear hρ
  repeat (first | refine byW ?_ | (refine byV ?_; intro w hw))
  refine W_cond rfl (fun h => ?_) (fun h => ?_)
  · have ht64 : t < 64 := by have := of_decide_eq_true h; omega
    clear h
    repeat (first | refine byW ?_ | (refine byV ?_; intro w hw))
    refine W_loop (fun μ2 ρ w => ∃ (k : Nat) (R2 : List Bool), μ2 + k = n3 ∧ Known H.Links x0.Node R2 ∧ R2[x0.Node.toNat]? = some true ∧ ((R2 = R ∧ ∀ (i : Nat) (l : LinkT), i < k → H.Links[i]? = some l → R.getD l.A.toNat false = R.getD l.B.toNat false) ∨ (¬ ClosedR H.Links R ∧ R2.count false + 1 ≤ R.count false)) ∧ Has ρ [(1, .pointer (some ⟨b1, 0, none⟩)), (3, .pointer (some ⟨b3, 0, none⟩)), (4, .int .i64 t), (5, .int .i64 k)] ∧ Wd Γ (.blk b3 (.cells (R2.map Value.bool).toArray 128) :: .blk b1 (hwC H a1 n1 c1 a2 n2 c2 a3 n3 c3 a4 n4 c4 a5 n5 c5) :: S) w) n3 ⟨0, R, by omega, hkn, hR0, .inl ⟨rfl, fun i l h => by omega⟩, ⟨rfl, rfl, rfl, rfl, trivial⟩, hw⟩ ?_
    clear hw hR0 hkn
    rintro μ2 ρ w ⟨k, R2, hk, hkn, hR0, hor, hρ, hw⟩
    rw [hρ.eq]
    clear hρ
    have hRl := hkn.len
    repeat (first | refine byW ?_ | (refine byV ?_; intro w hw))
    refine W_cond rfl (fun h2 => ?_) (fun h2 => ?_)
    · have hkn3 : k < n3 := by have := of_decide_eq_true h2; omega
      clear h2
      obtain ⟨x, hx⟩ := get_lt (l := H.Links) (k := k) (by omega)
      obtain ⟨hA0, hA1, hB0, hB1⟩ := hLk x (List.mem_of_getElem? hx)
      obtain ⟨ba, hba⟩ := get_lt (l := R2) (k := x.A.toNat) (by omega)
      obtain ⟨bb, hbb⟩ := get_lt (l := R2) (k := x.B.toNat) (by omega)
      have hxm := List.mem_of_getElem? hx
      have ga : R2.getD x.A.toNat false = ba := by rw [List.getD_eq_getElem?_getD, hba]; rfl
      have gb : R2.getD x.B.toNat false = bb := by rw [List.getD_eq_getElem?_getD, hbb]; rfl
      repeat (first | refine byW ?_ | (refine byV ?_; intro w hw))
      refine lAlloc ?_
      intro b6 w hw
      refine lStore ?_
      intro w hw
      have hw : Wd Γ (.blk b6 (.cells (enc x).toArray 56) :: .blk b3 (.cells (R2.map Value.bool).toArray 128) :: .blk b1 (hwC H a1 n1 c1 a2 n2 c2 a3 n3 c3 a4 n4 c4 a5 n5 c5) :: S) w := hw
      repeat (first | refine byW ?_ | (refine byV ?_; intro w hw))
      refine lY (v := .bool ba) ?_ (hy := y_l1b (i := 1) hw rfl rfl (getBool hba))
      repeat (first | refine byW ?_ | (refine byV ?_; intro w hw))
      refine lG (v := .bool bb) ?_ (hv := fun hc => y_l1b (i := 1) hw (gvT hc rfl) rfl (getBool hbb))
      repeat (first | refine byW ?_ | (refine byV ?_; intro w hw))
      refine W_cond rfl (fun h3 => ?_) (fun h3 => ?_)
      · have h3 : (ba || bb) = true := h3
        repeat (first | refine byW ?_ | (refine byV ?_; intro w hw))
        refine lStore (i := 1) (o := 0 + x.A.toNat * 1) (ho := by simp; omega) ?_
        intro w hw
        have hw : Wd Γ (.blk b6 (.cells (enc x).toArray 56) :: .blk b3 (.cells (putCells (R2.map Value.bool).toArray (0 + x.A.toNat * 1) [.bool true]) 128) :: .blk b1 (hwC H a1 n1 c1 a2 n2 c2 a3 n3 c3 a4 n4 c4 a5 n5 c5) :: S) w := hw
        rw [putBool (by omega)] at hw
        repeat (first | refine byW ?_ | (refine byV ?_; intro w hw))
        refine lStore (i := 1) (o := 0 + x.B.toNat * 1) (ho := by simp; omega) ?_
        intro w hw
        have hw : Wd Γ (.blk b6 (.cells (enc x).toArray 56) :: .blk b3 (.cells (putCells ((R2.set x.A.toNat true).map Value.bool).toArray (0 + x.B.toNat * 1) [.bool true]) 128) :: .blk b1 (hwC H a1 n1 c1 a2 n2 c2 a3 n3 c3 a4 n4 c4 a5 n5 c5) :: S) w := hw
        rw [putBool (by simp; omega)] at hw
        have hRA : Reach H.Links x0.Node x.A ∧ Reach H.Links x0.Node x.B := by
          cases ba with
          | true =>
            obtain ⟨n, hn, hn0, hr⟩ := hkn.ok _ hba
            have : n = x.A := by omega
            subst this
            exact ⟨hr, .ab hxm hr⟩
          | false =>
            have : bb = true := by simpa using h3
            subst this
            obtain ⟨n, hn, hn0, hr⟩ := hkn.ok _ hbb
            have : n = x.B := by omega
            subst this
            exact ⟨.ba hxm hr, hr⟩
        have hS0 : ((R2.set x.A.toNat true).set x.B.toNat true)[x0.Node.toNat]? = some true := by
          rw [List.getElem?_set, List.getElem?_set]
          split
          · simp; omega
          · split
            · simp; omega
            · exact hR0
        have hne : ba = bb ∧ (R2.set x.A.toNat true).set x.B.toNat true = R2 ∨ ba ≠ bb ∧ ((R2.set x.A.toNat true).set x.B.toNat true).count false + 1 ≤ R2.count false := by
          cases ba with
          | true =>
            rw [set_true_self hba]
            cases bb with
            | true => exact .inl ⟨rfl, set_true_self hbb⟩
            | false => exact .inr ⟨by simp, count_set_lt hbb⟩
          | false =>
            have : bb = true := by simpa using h3
            subst this
            refine .inr ⟨by simp, ?_⟩
            have h5 := count_set_lt hba
            have h6 := count_set_le (R := R2.set x.A.toNat true) (k := x.B.toNat)
            omega
        have hcnt2 : ((R2.set x.A.toNat true).set x.B.toNat true).count false ≤ R2.count false := Nat.le_trans count_set_le count_set_le
        repeat (first | refine byW ?_ | (refine byV ?_; intro w hw))
        refine ⟨μ2 - 1, by omega, k + 1, _, by omega, (hkn.set hA0 hRA.1).set hB0 hRA.2, hS0, ?_, ⟨rfl, rfl, rfl, rfl, trivial⟩, hw.drop⟩
        rcases hor with ⟨h6, h7⟩ | ⟨h6, h7⟩
        · rcases hne with ⟨h8, h9⟩ | ⟨h8, h9⟩
          · refine .inl ⟨by rw [h9]; exact h6, fun i l hi hl => ?_⟩
            by_cases e : i = k
            · subst e; rw [hx] at hl; cases hl
              rw [← h6, ga, gb, h8]
            · exact h7 i l (by omega) hl
          · refine .inr ⟨fun hC => h8 ?_, by rw [← h6]; exact h9⟩
            rw [← ga, ← gb, h6]; exact hC x hxm
        · exact .inr ⟨h6, by omega⟩
      · have h3 : (ba || bb) = false := h3
        have hab : ba = bb := by cases ba <;> cases bb <;> simp_all
        repeat (first | refine byW ?_ | (refine byV ?_; intro w hw))
        refine ⟨μ2 - 1, by omega, k + 1, R2, by omega, hkn, hR0, ?_, ⟨rfl, rfl, rfl, rfl, trivial⟩, hw.drop⟩
        rcases hor with ⟨h6, h7⟩ | h6
        · refine .inl ⟨h6, fun i l hi hl => ?_⟩
          by_cases e : i = k
          · subst e; rw [hx] at hl; cases hl
            rw [← h6, ga, gb, hab]
          · exact h7 i l (by omega) hl
        · exact .inr h6
    · have hkn3 : ¬ k < n3 := by have := of_decide_eq_false h2; omega
      repeat (first | refine byW ?_ | (refine byV ?_; intro w hw))
      refine ⟨μ - 1, by omega, t + 1, R2, by omega, hkn, hR0, ?_, ⟨rfl, rfl, rfl, trivial⟩, hw⟩
      rcases hor with ⟨h6, h7⟩ | ⟨h6, h7⟩
      · left
        rw [h6]
        intro l hl
        obtain ⟨i, hi⟩ := List.getElem?_of_mem hl
        exact h7 i l (by have := (List.getElem?_eq_some_iff.1 hi).1; omega) hi
      · rcases hcl with h8 | h8
        · exact absurd h8 h6
        · exact .inr (by omega)
  · have ht64 : ¬ t < 64 := by have := of_decide_eq_false h; omega
    have hC : ClosedR H.Links R := by
      rcases hcl with h8 | h8
      · exact h8
      · omega
    clear h hcl
    have hRl := hkn.len
    have hrq : ∀ n : Int, 0 ≤ n ∧ n < 64 → (R.getD n.toNat false = true ↔ Reach H.Links x0.Node n) := fun n hn => known_iff hkn hR0 hs00 hLk hC hn
    repeat (first | refine byW ?_ | (refine byV ?_; intro w hw))
    refine lCall ((Used_any (H := H) (s := H.Name) r1.rdS r4.rdS r5.rdS hNd hw).mono fun e w hq => ?_)
    clear hw
    obtain ⟨rfl, hw⟩ := hq
    refine ⟨_, rfl, ?_⟩
    have hUl : (markN R64 (usedN H)).length = 64 := by rw [markN_len]; simp
    have hUt : ∀ k : Nat, (markN R64 (usedN H))[k]? = some true → ∃ n ∈ usedN H, n.toNat = k := fun k hk => by
      rcases mark_true _ _ _ hk with h1 | h1
      · rw [List.getElem?_replicate] at h1; split at h1 <;> simp at h1
      · exact h1
    have hUf : ∀ k : Nat, (markN R64 (usedN H))[k]? = some false → ∀ n ∈ usedN H, n.toNat ≠ k := fun k hk => (markN_get _ _ _ hk).2
    generalize markN R64 (usedN H) = U at *
    repeat (first | refine byW ?_ | (refine byV ?_; intro w hw))
    refine lAlloc ?_
    intro b7 w hw
    refine lStore (vs := U.map Value.bool) ?_ (hl := by simp [hUl]) (h1 := by simp [Value.oneCell']) (ho := by simp) (hv := by simp [Value.cells])
    intro w hw
    have hw : Wd Γ (.blk b7 (.cells (putCells ((List.replicate 64 false).map Value.bool).toArray 0 (U.map Value.bool)) 128) :: .blk b3 (.cells (R.map Value.bool).toArray 128) :: .blk b1 (hwC H a1 n1 c1 a2 n2 c2 a3 n3 c3 a4 n4 c4 a5 n5 c5) :: S) w := hw
    rw [show putCells ((List.replicate 64 false).map Value.bool).toArray 0 (U.map Value.bool) = (U.map Value.bool).toArray from by unfold putCells; simp [hUl]] at hw
    repeat (first | refine byW ?_ | (refine byV ?_; intro w hw))
    refine W_loop (fun μ ρ w => ∃ (i : Nat), μ + i = 64 ∧ (∀ j : Nat, j < i → U[j]? = some true → R[j]? = some true) ∧ Has ρ [(3, .pointer (some ⟨b3, 0, none⟩)), (7, .pointer (some ⟨b7, 0, none⟩)), (8, .int .i64 i)] ∧ Wd Γ (.blk b7 (.cells (U.map Value.bool).toArray 128) :: .blk b3 (.cells (R.map Value.bool).toArray 128) :: .blk b1 (hwC H a1 n1 c1 a2 n2 c2 a3 n3 c3 a4 n4 c4 a5 n5 c5) :: S) w) 64 ⟨0, by omega, fun j h => by omega, ⟨rfl, rfl, rfl, trivial⟩, hw⟩ ?_
    clear hw
    rintro μ ρ w ⟨i, hi, hall, hρ, hw⟩
    rw [hρ.eq]
    clear hρ
    repeat (first | refine byW ?_ | (refine byV ?_; intro w hw))
    refine W_cond rfl (fun h => ?_) (fun h => ?_)
    · have hin : i < 64 := by have := of_decide_eq_true h; omega
      clear h
      obtain ⟨bu, hbu⟩ := get_lt (l := U) (k := i) (by omega)
      obtain ⟨br, hbr⟩ := get_lt (l := R) (k := i) (by omega)
      repeat (first | refine byW ?_ | (refine byV ?_; intro w hw))
      refine lY (v := .bool bu) ?_ (hy := y_l1b (i := 0) hw rfl rfl (getBool hbu))
      repeat (first | refine byW ?_ | (refine byV ?_; intro w hw))
      refine lG (v := .bool br) ?_ (hv := fun hc => y_l1b (i := 1) hw (gvT hc rfl) rfl (getBool hbr))
      repeat (first | refine byW ?_ | (refine byV ?_; intro w hw))
      refine W_cond rfl (fun h3 => ?_) (fun h3 => ?_)
      · have h3 : (bu && !br) = true := h3
        simp only [Bool.and_eq_true, Bool.not_eq_true'] at h3
        obtain ⟨rfl, rfl⟩ := h3
        repeat (first | refine byW ?_ | (refine byV ?_; intro w hw))
        refine ⟨_, rfl, ret_b rfl ?_, hw.ds [0, 0, 0]⟩
        obtain ⟨n, hn, hni⟩ := hUt i hbu
        refine (decP_f fun hP => ?_).symm
        have h5 := hP n hn
        rw [hhead] at h5
        have h6 := (hrq n (hNd n hn)).2 h5
        rw [hni, List.getD_eq_getElem?_getD, hbr] at h6
        cases h6
      · have h3 : (bu && !br) = false := h3
        repeat (first | refine byW ?_ | (refine byV ?_; intro w hw))
        refine ⟨μ - 1, by omega, i + 1, by omega, fun j hj hu => ?_, ⟨rfl, rfl, rfl, trivial⟩, hw⟩
        by_cases e : j = i
        · subst e; rw [hbu] at hu; cases hu
          cases br with
          | true => exact hbr
          | false => simp at h3
        · exact hall j (by omega) hu
    · have hin : ¬ i < 64 := by have := of_decide_eq_false h; omega
      repeat (first | refine byW ?_ | (refine byV ?_; intro w hw))
      refine ⟨_, rfl, ret_b rfl ?_, hw.ds [0, 0, 0]⟩
      refine (decP_t fun n hn => ?_).symm
      rw [hhead]
      have hr := hNd n hn
      obtain ⟨bu, hbu⟩ := get_lt (l := U) (k := n.toNat) (by omega)
      cases bu with
      | false => exact absurd rfl (hUf _ hbu n hn)
      | true =>
        refine (hrq n hr).1 ?_
        rw [List.getD_eq_getElem?_getD, hall n.toNat (by omega) hbu]; rfl
end Go.Proofs.YteiijmclobggjaaGreat
end
/- The reference's Validate: what is defined twice (printed by a program). -/
section
open Go Mk
namespace Go.Proofs.YteiijmclobggjaaGreat
set_option maxHeartbeats 16000000
attribute [local irreducible] Calls
theorem nodup_succ {α : Type} {l : List α} {i : Nat} {x : α} (h : (l.take i).Nodup) (hx : l[i]? = some x) (hn : ∀ j y, j < i → l[j]? = some y → x ≠ y) : (l.take (i + 1)).Nodup := by
  rw [List.take_add_one, hx]
  refine List.nodup_append.2 ⟨h, by simp, fun a ha b hb e => ?_⟩
  have hb : b = x := by simpa using hb
  subst hb
  subst e
  obtain ⟨j, hj, hja⟩ := List.getElem_of_mem ha
  have hji : j < i := by rw [List.length_take] at hj; omega
  refine hn j a hji ?_ rfl
  have h1 : (l.take i)[j]? = some a := by rw [List.getElem?_eq_getElem hj, hja]
  rwa [List.getElem?_take, if_pos hji] at h1
theorem not_nodup {α : Type} {l : List α} {i k : Nat} {x : α} (hk : k < i) (hx : l[i]? = some x) (hy : l[k]? = some x) : ¬ l.Nodup := fun h => by
  obtain ⟨h1, h2⟩ := List.getElem?_eq_some_iff.1 hx
  obtain ⟨h3, h4⟩ := List.getElem?_eq_some_iff.1 hy
  exact List.pairwise_iff_getElem.1 h k i h3 h1 hk (h4.trans h2.symm)
theorem mapG {α β : Type} {f : α → β} {l : List α} {i : Nat} {x : α} (h : l[i]? = some x) : (l.map f)[i]? = some (f x) := by rw [List.getElem?_map, h]; rfl
theorem no_step {α : Type} {l : List α} {x y : α} {k : Nat} (h : ∀ j z, j < k → l[j]? = some z → x ≠ z) (hy : l[k]? = some y) (hxy : ¬ x = y) : ∀ j z, j < k + 1 → l[j]? = some z → x ≠ z := fun j z hj hz => by
  by_cases e : j = k
  · subst e; rw [hy] at hz; cases hz; exact hxy
  · exact h j z (by omega) hz
theorem twice_any {Γ : Gho} {S : List Res} {w : World} {v : Value} (xs : List Int) (hr : RepS Γ v 1 (intRows xs)) (hw : Wd Γ S w) :
    Calls Tryz.prog 78 #[v] w fun e w' => e = .returned (.bool (!decide xs.Nodup)) ∧ Wd Γ S w' := by
  obtain ⟨a, n, c, rfl, hn, hnc, hc⟩ := hr.shape
  rw [show (intRows xs).length = xs.length from List.length_map ..] at hn
  refine calls_of_W Tryz.func78 rfl rfl ?_
  repeat (first | refine byW ?_ | (refine byV ?_; intro w hw))
  refine W_loop (fun μ ρ w => ∃ (i : Nat), μ + i = n ∧ Has ρ [(0, .slice a n c), (3, .int .i64 i)] ∧ (xs.take i).Nodup ∧ Wd Γ S w) n ⟨0, by omega, ⟨rfl, rfl, trivial⟩, by simp, hw⟩ ?_
  clear hw
  rintro μ ρ w ⟨i, hi, hρ, hnd, hw⟩
  rw [hρ.eq]
  repeat (first | refine byW ?_ | (refine byV ?_; intro w hw))
  refine W_cond rfl (fun h => ?_) (fun h => ?_)
  · have hin : i < n := by have := of_decide_eq_true h; omega
    clear h
    obtain ⟨x, hx⟩ := get_lt (l := xs) (k := i) (by omega)
    repeat (first | refine byW ?_ | (refine byV ?_; intro w hw))
    refine W_loop (fun μ ρ w => ∃ (k : Nat), μ + k = i ∧ Has ρ [(0, .slice a n c), (3, .int .i64 i), (4, .int .i64 k)] ∧ (∀ j y, j < k → xs[j]? = some y → x ≠ y) ∧ Wd Γ S w) i ⟨0, by omega, ⟨rfl, rfl, rfl, trivial⟩, fun j y hj => by omega, hw⟩ ?_
    clear hw hρ
    rintro μ2 ρ w ⟨k, hk, hρ, hno, hw⟩
    rw [hρ.eq]
    repeat (first | refine byW ?_ | (refine byV ?_; intro w hw))
    refine W_cond rfl (fun h => ?_) (fun h => ?_)
    · have hki : k < i := by have := of_decide_eq_true h; omega
      clear h
      obtain ⟨y, hy⟩ := get_lt (l := xs) (k := k) (by omega)
      repeat (first | refine byW ?_ | (refine byV ?_; intro w hw))
      refine W_quiet (by kernel_rfl) (by kernel_rfl) hw ?_
      repeat (first | refine Q_nil ?_ | (apply Q_plain; first | (apply Q_go; first | refine qP ?_ | refine qPg ?_) | refine qY ?_) | (apply Q_guarded; first | (apply Q_go; first | refine qPG ?_ | refine qPgG ?_) | refine qG ?_))
      intro w hw
      repeat (first | refine byW ?_ | (refine byV ?_; intro w hw))
      refine W_cond rfl (fun h => ?_) (fun h => ?_)
      · have h : x = y := of_decide_eq_true h
        subst h
        repeat (first | refine byW ?_ | (refine byV ?_; intro w hw))
        exact ⟨_, rfl, ret_b rfl (by rw [decide_eq_false (not_nodup hki hx hy)]; rfl), hw⟩
      · have h : ¬ x = y := of_decide_eq_false h
        repeat (first | refine byW ?_ | (refine byV ?_; intro w hw))
        exact ⟨μ2 - 1, by omega, k + 1, by omega, ⟨rfl, rfl, rfl, trivial⟩, no_step hno hy h, hw⟩
    · have hki : i ≤ k := by have := of_decide_eq_false h; omega
      repeat (first | refine byW ?_ | (refine byV ?_; intro w hw))
      exact ⟨μ - 1, by omega, i + 1, by omega, ⟨rfl, rfl, trivial⟩, nodup_succ hnd hx fun j y hj => hno j y (by omega), hw⟩
  · have hin : n ≤ i := by have := of_decide_eq_false h; omega
    rw [List.take_of_length_le (by omega)] at hnd
    repeat (first | refine byW ?_ | (refine byV ?_; intro w hw))
    exact ⟨_, rfl, ret_b rfl (by rw [decide_eq_true hnd]; rfl), hw⟩
theorem key_iff (x y : LinkT) : (linkKey x = linkKey y) ↔ (x.A = y.A ∧ x.B = y.B ∨ x.A = y.B ∧ x.B = y.A) := by
  unfold linkKey
  rw [Prod.mk.injEq]
  constructor
  · rintro ⟨h1, h2⟩
    split at h1 <;> split at h1 <;> split at h2 <;> split at h2 <;> omega
  · rintro (⟨h1, h2⟩ | ⟨h1, h2⟩)
    · rw [h1, h2]; exact ⟨rfl, rfl⟩
    · rw [h1, h2]
      refine ⟨?_, ?_⟩
      · split <;> split <;> omega
      · split <;> split <;> omega
theorem uniq_no {H : HwT} (h : ¬ (H.Cores.map (·.ID)).Nodup ∨ ¬ (H.Caches.map (·.Name)).Nodup ∨ ¬ (H.Mems.map (·.Name)).Nodup ∨ ¬ (H.Devs.map (·.Name)).Nodup ∨ ¬ (H.Devs.map (·.IRQ)).Nodup ∨ ¬ (H.Links.map linkKey).Nodup) : true = !uniqueB H := by
  unfold uniqueB
  rcases h with h | h | h | h | h | h <;> rw [decide_eq_false h] <;> simp only [Bool.and_false, Bool.false_and, Bool.not_false]

theorem duplicate_any {Γ : Gho} {u : Value} {H : HwT} [hh : HwR Γ u H] {S : List Res} {w : World} (hw : Wd Γ S w) :
    Calls Tryz.prog 51 #[u] w fun e w' => e = .returned (.bool (!uniqueB H)) ∧ Wd Γ S w' := by
  obtain ⟨a1, n1, c1, a2, n2, c2, a3, n3, c3, a4, n4, c4, a5, n5, c5, cs, rfl, hcs, hok, hsz, r1, r2, r3, r4, r5⟩ := hh.h
  obtain ⟨f1, f1', f1''⟩ := rep_facts r1
  obtain ⟨f2, f2', f2''⟩ := rep_facts r2
  obtain ⟨f3, f3', f3''⟩ := rep_facts r3
  obtain ⟨f4, f4', f4''⟩ := rep_facts r4
  obtain ⟨f5, f5', f5''⟩ := rep_facts r5
  simp only [List.length_map] at f1 f2 f3 f4 f5
  have hcl : cs.length = H.Caches.length := by rw [← hcs, List.length_map]
  refine calls_of_W Tryz.func51 rfl rfl ?_
  repeat (first | refine byW ?_ | (refine byV ?_; intro w hw))
  refine lBox ?_
  intro b1 w hw
  have hw : Wd Γ (.blk b1 (hwC H a1 n1 c1 a2 n2 c2 a3 n3 c3 a4 n4 c4 a5 n5 c5) :: S) w := hw
  repeat (first | refine byW ?_ | (refine byV ?_; intro w hw))
  refine W_loop (fun μ ρ w => ∃ (i : Nat), μ + i = n1 ∧ Has ρ [(1, .pointer (some ⟨b1, 0, none⟩)), (3, .int .i64 i)] ∧ (((H.Cores.map (·.ID)).take i).Nodup) ∧ Wd Γ (.blk b1 (hwC H a1 n1 c1 a2 n2 c2 a3 n3 c3 a4 n4 c4 a5 n5 c5) :: S) w) n1 ⟨0, by omega, ⟨rfl, rfl, trivial⟩, by simp, hw⟩ ?_
  clear hw
  rintro μ ρ w ⟨i, hi, hρ, hnd0, hw⟩
  rw [hρ.eq]
  repeat (first | refine byW ?_ | (refine byV ?_; intro w hw))
  refine W_cond rfl (fun h => ?_) (fun h => ?_)
  · have hin : i < n1 := by have := of_decide_eq_true h; omega
    clear h
    obtain ⟨x, hx⟩ := get_lt (l := H.Cores) (k := i) (by omega)
    repeat (first | refine byW ?_ | (refine byV ?_; intro w hw))
    refine W_loop (fun μ ρ w => ∃ (k : Nat), μ + k = i ∧ Has ρ [(1, .pointer (some ⟨b1, 0, none⟩)), (3, .int .i64 i), (4, .int .i64 k)] ∧ ((∀ j y, j < k → (H.Cores.map (·.ID))[j]? = some y → ((·.ID)) x ≠ y)) ∧ Wd Γ (.blk b1 (hwC H a1 n1 c1 a2 n2 c2 a3 n3 c3 a4 n4 c4 a5 n5 c5) :: S) w) i ⟨0, by omega, ⟨rfl, rfl, rfl, trivial⟩, fun j y hj => by omega, hw⟩ ?_
    clear hw hρ
    rintro μ2 ρ w ⟨k, hk, hρ, hno0, hw⟩
    rw [hρ.eq]
    repeat (first | refine byW ?_ | (refine byV ?_; intro w hw))
    refine W_cond rfl (fun h => ?_) (fun h => ?_)
    · have hki : k < i := by have := of_decide_eq_true h; omega
      clear h
      obtain ⟨y, hy⟩ := get_lt (l := H.Cores) (k := k) (by omega)
      repeat (first | refine byW ?_ | (refine byV ?_; intro w hw))
      refine W_quiet (by kernel_rfl) (by kernel_rfl) hw ?_
      repeat (first | refine Q_nil ?_ | (apply Q_plain; first | (apply Q_go; first | refine qP ?_ | refine qPg ?_) | refine qY ?_) | (apply Q_guarded; first | (apply Q_go; first | refine qPG ?_ | refine qPgG ?_) | refine qG ?_))
      intro w hw
      repeat (first | refine byW ?_ | (refine byV ?_; intro w hw))
      refine W_cond rfl (fun h => ?_) (fun h => ?_)
      · have h : x.ID = y.ID := of_decide_eq_true h
        repeat (first | refine byW ?_ | (refine byV ?_; intro w hw))
        exact ⟨_, rfl, ret_b rfl (uniq_no (.inl (not_nodup hki (mapG hx) ((mapG hy).trans (congrArg some h.symm))))), hw.drop⟩
      · have h : ¬ x.ID = y.ID := of_decide_eq_false h
        repeat (first | refine byW ?_ | (refine byV ?_; intro w hw))
        exact ⟨μ2 - 1, by omega, k + 1, by omega, ⟨rfl, rfl, rfl, trivial⟩, no_step hno0 (mapG hy) h, hw⟩
    have hki : i ≤ k := by have := of_decide_eq_false h; omega
    repeat (first | refine byW ?_ | (refine byV ?_; intro w hw))
    exact ⟨μ - 1, by omega, i + 1, by omega, ⟨rfl, rfl, trivial⟩, nodup_succ hnd0 (mapG hx) fun j y hj => hno0 j y (by omega), hw⟩
  have hin : n1 ≤ i := by have := of_decide_eq_false h; omega
  clear h
  rw [List.take_of_length_le (by rw [List.length_map]; omega)] at hnd0
  have hq10 := hnd0
  clear hi hρ hnd0
  repeat (first | refine byW ?_ | (refine byV ?_; intro w hw))
  refine W_loop (fun μ ρ w => ∃ (i : Nat), μ + i = n2 ∧ Has ρ [(1, .pointer (some ⟨b1, 0, none⟩)), (5, .int .i64 i)] ∧ (((H.Caches.map (·.Name)).take i).Nodup) ∧ (∀ c ∈ H.Caches.take i, c.Cores.Nodup) ∧ Wd Γ (.blk b1 (hwC H a1 n1 c1 a2 n2 c2 a3 n3 c3 a4 n4 c4 a5 n5 c5) :: S) w) n2 ⟨0, by omega, ⟨rfl, rfl, trivial⟩, by simp, by simp, hw⟩ ?_
  clear hw
  rintro μ ρ w ⟨i, hi, hρ, hnd0, hcn, hw⟩
  rw [hρ.eq]
  repeat (first | refine byW ?_ | (refine byV ?_; intro w hw))
  refine W_cond rfl (fun h => ?_) (fun h => ?_)
  · have hin : i < n2 := by have := of_decide_eq_true h; omega
    clear h
    obtain ⟨x, hx⟩ := get_lt (l := cs) (k := i) (by omega)
    obtain ⟨gx1, gx2, gx3⟩ := (hok x (List.mem_of_getElem? hx)).facts
    have hxT : H.Caches[i]? = some x.T := by rw [← hcs, List.getElem?_map, hx]; rfl
    repeat (first | refine byW ?_ | (refine byV ?_; intro w hw))
    refine W_loop (fun μ ρ w => ∃ (k : Nat), μ + k = i ∧ Has ρ [(1, .pointer (some ⟨b1, 0, none⟩)), (5, .int .i64 i), (6, .int .i64 k)] ∧ ((∀ j y, j < k → (H.Caches.map (·.Name))[j]? = some y → ((·.Name)) x.T ≠ y)) ∧ Wd Γ (.blk b1 (hwC H a1 n1 c1 a2 n2 c2 a3 n3 c3 a4 n4 c4 a5 n5 c5) :: S) w) i ⟨0, by omega, ⟨rfl, rfl, rfl, trivial⟩, fun j y hj => by omega, hw⟩ ?_
    clear hw hρ
    rintro μ2 ρ w ⟨k, hk, hρ, hno0, hw⟩
    rw [hρ.eq]
    repeat (first | refine byW ?_ | (refine byV ?_; intro w hw))
    refine W_cond rfl (fun h => ?_) (fun h => ?_)
    · have hki : k < i := by have := of_decide_eq_true h; omega
      clear h
      obtain ⟨y, hy⟩ := get_lt (l := cs) (k := k) (by omega)
      have hyT : H.Caches[k]? = some y.T := by rw [← hcs, List.getElem?_map, hy]; rfl
      repeat (first | refine byW ?_ | (refine byV ?_; intro w hw))
      refine W_quiet (by kernel_rfl) (by kernel_rfl) hw ?_
      repeat (first | refine Q_nil ?_ | (apply Q_plain; first | (apply Q_go; first | refine qP ?_ | refine qPg ?_) | refine qY ?_) | (apply Q_guarded; first | (apply Q_go; first | refine qPG ?_ | refine qPgG ?_) | refine qG ?_))
      intro w hw
      repeat (first | refine byW ?_ | (refine byV ?_; intro w hw))
      refine W_cond rfl (fun h => ?_) (fun h => ?_)
      · have h : x.Name = y.Name := of_decide_eq_true h
        repeat (first | refine byW ?_ | (refine byV ?_; intro w hw))
        exact ⟨_, rfl, ret_b rfl (uniq_no (.inr (.inl (not_nodup hki (mapG hxT) ((mapG hyT).trans (congrArg some h.symm)))))), hw.drop⟩
      · have h : ¬ x.Name = y.Name := of_decide_eq_false h
        repeat (first | refine byW ?_ | (refine byV ?_; intro w hw))
        exact ⟨μ2 - 1, by omega, k + 1, by omega, ⟨rfl, rfl, rfl, trivial⟩, no_step hno0 (mapG hyT) h, hw⟩
    have hki : i ≤ k := by have := of_decide_eq_false h; omega
    have hrd : RepS Γ (.slice x.A x.N x.C) 1 (intRows x.Cores) := hok x (List.mem_of_getElem? hx)
    repeat (first | refine byW ?_ | (refine byV ?_; intro w hw))
    refine lCall ?_
    refine (twice_any x.Cores hrd hw).mono ?_
    clear hw
    rintro e w ⟨rfl, hw⟩
    refine ⟨_, rfl, ?_⟩
    repeat (first | refine byW ?_ | (refine byV ?_; intro w hw))
    refine W_cond rfl (fun h2 => ?_) (fun h2 => ?_)
    · have h2 : (!decide x.Cores.Nodup) = true := h2
      have h2 : ¬ x.Cores.Nodup := of_decide_eq_false (notF h2)
      repeat (first | refine byW ?_ | (refine byV ?_; intro w hw))
      refine ⟨_, rfl, ret_b rfl ?_, hw.drop⟩
      unfold uniqueB
      rw [all_no hxT (p := fun c => decide c.Cores.Nodup) (decide_eq_false h2), Bool.false_and]; rfl
    have h2 : (!decide x.Cores.Nodup) = false := h2
    have h2 : x.Cores.Nodup := of_decide_eq_true (notT h2)
    repeat (first | refine byW ?_ | (refine byV ?_; intro w hw))
    refine ⟨μ - 1, by omega, i + 1, by omega, ⟨rfl, rfl, trivial⟩, nodup_succ hnd0 (mapG hxT) fun j y hj => hno0 j y (by omega), fun c hc => ?_, hw⟩
    rw [List.take_add_one, hxT] at hc
    rcases List.mem_append.1 hc with q | q
    · exact hcn c q
    · rw [show c = x.T by simpa using q]; exact h2
  have hin : n2 ≤ i := by have := of_decide_eq_false h; omega
  clear h
  rw [List.take_of_length_le (by rw [List.length_map]; omega)] at hnd0
  rw [List.take_of_length_le (by omega)] at hcn
  have hq20 := hnd0
  clear hi hρ hnd0
  repeat (first | refine byW ?_ | (refine byV ?_; intro w hw))
  refine W_loop (fun μ ρ w => ∃ (i : Nat), μ + i = n4 ∧ Has ρ [(1, .pointer (some ⟨b1, 0, none⟩)), (7, .int .i64 i)] ∧ (((H.Mems.map (·.Name)).take i).Nodup) ∧ Wd Γ (.blk b1 (hwC H a1 n1 c1 a2 n2 c2 a3 n3 c3 a4 n4 c4 a5 n5 c5) :: S) w) n4 ⟨0, by omega, ⟨rfl, rfl, trivial⟩, by simp, hw⟩ ?_
  clear hw
  rintro μ ρ w ⟨i, hi, hρ, hnd0, hw⟩
  rw [hρ.eq]
  repeat (first | refine byW ?_ | (refine byV ?_; intro w hw))
  refine W_cond rfl (fun h => ?_) (fun h => ?_)
  · have hin : i < n4 := by have := of_decide_eq_true h; omega
    clear h
    obtain ⟨x, hx⟩ := get_lt (l := H.Mems) (k := i) (by omega)
    repeat (first | refine byW ?_ | (refine byV ?_; intro w hw))
    refine W_loop (fun μ ρ w => ∃ (k : Nat), μ + k = i ∧ Has ρ [(1, .pointer (some ⟨b1, 0, none⟩)), (7, .int .i64 i), (8, .int .i64 k)] ∧ ((∀ j y, j < k → (H.Mems.map (·.Name))[j]? = some y → ((·.Name)) x ≠ y)) ∧ Wd Γ (.blk b1 (hwC H a1 n1 c1 a2 n2 c2 a3 n3 c3 a4 n4 c4 a5 n5 c5) :: S) w) i ⟨0, by omega, ⟨rfl, rfl, rfl, trivial⟩, fun j y hj => by omega, hw⟩ ?_
    clear hw hρ
    rintro μ2 ρ w ⟨k, hk, hρ, hno0, hw⟩
    rw [hρ.eq]
    repeat (first | refine byW ?_ | (refine byV ?_; intro w hw))
    refine W_cond rfl (fun h => ?_) (fun h => ?_)
    · have hki : k < i := by have := of_decide_eq_true h; omega
      clear h
      obtain ⟨y, hy⟩ := get_lt (l := H.Mems) (k := k) (by omega)
      repeat (first | refine byW ?_ | (refine byV ?_; intro w hw))
      refine W_quiet (by kernel_rfl) (by kernel_rfl) hw ?_
      repeat (first | refine Q_nil ?_ | (apply Q_plain; first | (apply Q_go; first | refine qP ?_ | refine qPg ?_) | refine qY ?_) | (apply Q_guarded; first | (apply Q_go; first | refine qPG ?_ | refine qPgG ?_) | refine qG ?_))
      intro w hw
      repeat (first | refine byW ?_ | (refine byV ?_; intro w hw))
      refine W_cond rfl (fun h => ?_) (fun h => ?_)
      · have h : x.Name = y.Name := of_decide_eq_true h
        repeat (first | refine byW ?_ | (refine byV ?_; intro w hw))
        exact ⟨_, rfl, ret_b rfl (uniq_no (.inr (.inr (.inl (not_nodup hki (mapG hx) ((mapG hy).trans (congrArg some h.symm))))))), hw.drop⟩
      · have h : ¬ x.Name = y.Name := of_decide_eq_false h
        repeat (first | refine byW ?_ | (refine byV ?_; intro w hw))
        exact ⟨μ2 - 1, by omega, k + 1, by omega, ⟨rfl, rfl, rfl, trivial⟩, no_step hno0 (mapG hy) h, hw⟩
    have hki : i ≤ k := by have := of_decide_eq_false h; omega
    repeat (first | refine byW ?_ | (refine byV ?_; intro w hw))
    exact ⟨μ - 1, by omega, i + 1, by omega, ⟨rfl, rfl, trivial⟩, nodup_succ hnd0 (mapG hx) fun j y hj => hno0 j y (by omega), hw⟩
  have hin : n4 ≤ i := by have := of_decide_eq_false h; omega
  clear h
  rw [List.take_of_length_le (by rw [List.length_map]; omega)] at hnd0
  have hq40 := hnd0
  clear hi hρ hnd0
  repeat (first | refine byW ?_ | (refine byV ?_; intro w hw))
  refine W_loop (fun μ ρ w => ∃ (i : Nat), μ + i = n5 ∧ Has ρ [(1, .pointer (some ⟨b1, 0, none⟩)), (9, .int .i64 i)] ∧ (((H.Devs.map (·.Name)).take i).Nodup ∧ ((H.Devs.map (·.IRQ)).take i).Nodup) ∧ Wd Γ (.blk b1 (hwC H a1 n1 c1 a2 n2 c2 a3 n3 c3 a4 n4 c4 a5 n5 c5) :: S) w) n5 ⟨0, by omega, ⟨rfl, rfl, trivial⟩, by simp, hw⟩ ?_
  clear hw
  rintro μ ρ w ⟨i, hi, hρ, ⟨hnd0, hnd1⟩, hw⟩
  rw [hρ.eq]
  repeat (first | refine byW ?_ | (refine byV ?_; intro w hw))
  refine W_cond rfl (fun h => ?_) (fun h => ?_)
  · have hin : i < n5 := by have := of_decide_eq_true h; omega
    clear h
    obtain ⟨x, hx⟩ := get_lt (l := H.Devs) (k := i) (by omega)
    repeat (first | refine byW ?_ | (refine byV ?_; intro w hw))
    refine W_loop (fun μ ρ w => ∃ (k : Nat), μ + k = i ∧ Has ρ [(1, .pointer (some ⟨b1, 0, none⟩)), (9, .int .i64 i), (10, .int .i64 k)] ∧ ((∀ j y, j < k → (H.Devs.map (·.Name))[j]? = some y → ((·.Name)) x ≠ y) ∧ (∀ j y, j < k → (H.Devs.map (·.IRQ))[j]? = some y → ((·.IRQ)) x ≠ y)) ∧ Wd Γ (.blk b1 (hwC H a1 n1 c1 a2 n2 c2 a3 n3 c3 a4 n4 c4 a5 n5 c5) :: S) w) i ⟨0, by omega, ⟨rfl, rfl, rfl, trivial⟩, ⟨fun j y hj => by omega, fun j y hj => by omega⟩, hw⟩ ?_
    clear hw hρ
    rintro μ2 ρ w ⟨k, hk, hρ, ⟨hno0, hno1⟩, hw⟩
    rw [hρ.eq]
    repeat (first | refine byW ?_ | (refine byV ?_; intro w hw))
    refine W_cond rfl (fun h => ?_) (fun h => ?_)
    · have hki : k < i := by have := of_decide_eq_true h; omega
      clear h
      obtain ⟨y, hy⟩ := get_lt (l := H.Devs) (k := k) (by omega)
      repeat (first | refine byW ?_ | (refine byV ?_; intro w hw))
      refine W_quiet (by kernel_rfl) (by kernel_rfl) hw ?_
      repeat (first | refine Q_nil ?_ | (apply Q_plain; first | (apply Q_go; first | refine qP ?_ | refine qPg ?_) | refine qY ?_) | (apply Q_guarded; first | (apply Q_go; first | refine qPG ?_ | refine qPgG ?_) | refine qG ?_))
      intro w hw
      repeat (first | refine byW ?_ | (refine byV ?_; intro w hw))
      refine W_cond rfl (fun h => ?_) (fun h => ?_)
      · have h : (decide (x.Name = y.Name) || decide (x.IRQ = y.IRQ)) = true := h
        rw [Bool.or_eq_true, decide_eq_true_eq, decide_eq_true_eq] at h
        repeat (first | refine byW ?_ | (refine byV ?_; intro w hw))
        refine ⟨_, rfl, ret_b rfl (uniq_no (.inr (.inr (.inr ?_)))), hw.drop⟩
        rcases h with h | h
        · exact .inl (not_nodup hki (mapG hx) ((mapG hy).trans (congrArg some h.symm)))
        · exact .inr (.inl (not_nodup hki (mapG hx) ((mapG hy).trans (congrArg some h.symm))))
      · have h : (decide (x.Name = y.Name) || decide (x.IRQ = y.IRQ)) = false := h
        rw [Bool.or_eq_false_iff, decide_eq_false_iff_not, decide_eq_false_iff_not] at h
        repeat (first | refine byW ?_ | (refine byV ?_; intro w hw))
        exact ⟨μ2 - 1, by omega, k + 1, by omega, ⟨rfl, rfl, rfl, trivial⟩, ⟨no_step hno0 (mapG hy) h.1, no_step hno1 (mapG hy) h.2⟩, hw⟩
    have hki : i ≤ k := by have := of_decide_eq_false h; omega
    repeat (first | refine byW ?_ | (refine byV ?_; intro w hw))
    exact ⟨μ - 1, by omega, i + 1, by omega, ⟨rfl, rfl, trivial⟩, ⟨nodup_succ hnd0 (mapG hx) fun j y hj => hno0 j y (by omega), nodup_succ hnd1 (mapG hx) fun j y hj => hno1 j y (by omega)⟩, hw⟩
  have hin : n5 ≤ i := by have := of_decide_eq_false h; omega
  clear h
  rw [List.take_of_length_le (by rw [List.length_map]; omega)] at hnd0
  rw [List.take_of_length_le (by rw [List.length_map]; omega)] at hnd1
  have hq50 := hnd0
  have hq51 := hnd1
  clear hi hρ hnd0 hnd1
  repeat (first | refine byW ?_ | (refine byV ?_; intro w hw))
  refine W_loop (fun μ ρ w => ∃ (i : Nat), μ + i = n3 ∧ Has ρ [(1, .pointer (some ⟨b1, 0, none⟩)), (11, .int .i64 i)] ∧ (((H.Links.map linkKey).take i).Nodup) ∧ Wd Γ (.blk b1 (hwC H a1 n1 c1 a2 n2 c2 a3 n3 c3 a4 n4 c4 a5 n5 c5) :: S) w) n3 ⟨0, by omega, ⟨rfl, rfl, trivial⟩, by simp, hw⟩ ?_
  clear hw
  rintro μ ρ w ⟨i, hi, hρ, hnd0, hw⟩
  rw [hρ.eq]
  repeat (first | refine byW ?_ | (refine byV ?_; intro w hw))
  refine W_cond rfl (fun h => ?_) (fun h => ?_)
  · have hin : i < n3 := by have := of_decide_eq_true h; omega
    clear h
    obtain ⟨x, hx⟩ := get_lt (l := H.Links) (k := i) (by omega)
    repeat (first | refine byW ?_ | (refine byV ?_; intro w hw))
    refine W_loop (fun μ ρ w => ∃ (k : Nat), μ + k = i ∧ Has ρ [(1, .pointer (some ⟨b1, 0, none⟩)), (11, .int .i64 i), (12, .int .i64 k)] ∧ ((∀ j y, j < k → (H.Links.map linkKey)[j]? = some y → (linkKey) x ≠ y)) ∧ Wd Γ (.blk b1 (hwC H a1 n1 c1 a2 n2 c2 a3 n3 c3 a4 n4 c4 a5 n5 c5) :: S) w) i ⟨0, by omega, ⟨rfl, rfl, rfl, trivial⟩, fun j y hj => by omega, hw⟩ ?_
    clear hw hρ
    rintro μ2 ρ w ⟨k, hk, hρ, hno0, hw⟩
    rw [hρ.eq]
    repeat (first | refine byW ?_ | (refine byV ?_; intro w hw))
    refine W_cond rfl (fun h => ?_) (fun h => ?_)
    · have hki : k < i := by have := of_decide_eq_true h; omega
      clear h
      obtain ⟨y, hy⟩ := get_lt (l := H.Links) (k := k) (by omega)
      repeat (first | refine byW ?_ | (refine byV ?_; intro w hw))
      refine W_mixed [.blk b1 (hwC H a1 n1 c1 a2 n2 c2 a3 n3 c3 a4 n4 c4 a5 n5 c5)] [fun _ => [], fun _ => [], fun _ => S] [[],[],[],[],[],[],[],[],[],[],[0],[1],[0],[1]] [[],[],[],[],[],[],[],[],[],[],[0],[1],[0],[1]] [[13], [14], []] (by have := hw; simpa [List.range, List.range.loop, ML] using this) ?_
      repeat (first | refine mY ?_ | refine mP ?_ | refine mPg ?_)
      refine mAlloc ?_
      refine mAlloc ?_
      refine mStoreAt ?_
      refine mStoreAt ?_
      refine mEnd fun w g hw => ?_
      have hw : Wd Γ (.blk b1 (hwC H a1 n1 c1 a2 n2 c2 a3 n3 c3 a4 n4 c4 a5 n5 c5) :: atP (g 13) _ :: atP (g 14) _ :: (S ++ [])) w := hw
      rw [List.append_nil] at hw
      obtain ⟨b13, hg13, hw⟩ := (Wd.ps [1] hw).openAt
      have hw : Wd Γ (.blk b13 (.cells (enc x).toArray 56) :: .blk b1 (hwC H a1 n1 c1 a2 n2 c2 a3 n3 c3 a4 n4 c4 a5 n5 c5) :: atP (g 14) _ :: S) w := hw
      obtain ⟨b14, hg14, hw⟩ := (Wd.ps [2] hw).openAt
      have hw : Wd Γ (.blk b14 (.cells (enc y).toArray 56) :: .blk b13 (.cells (enc x).toArray 56) :: .blk b1 (hwC H a1 n1 c1 a2 n2 c2 a3 n3 c3 a4 n4 c4 a5 n5 c5) :: S) w := hw
      refine W_has (l := [(1, .pointer (some ⟨b1, 0, none⟩)), (11, .int .i64 i), (12, .int .i64 k), (13, .pointer (some ⟨b13, 0, none⟩)), (14, .pointer (some ⟨b14, 0, none⟩))]) ⟨rfl, rfl, rfl, hg13, hg14, trivial⟩ fun ρ' hρ' => ?_
      clear hg13 hg14
      rw [hρ'.eq]
      clear hρ'
      repeat (first | refine byW ?_ | (refine byV ?_; intro w hw))
      refine W_cond rfl (fun h => ?_) (fun h => ?_)
      · have h : ((decide (x.A = y.A) && decide (x.B = y.B)) || (decide (x.A = y.B) && decide (x.B = y.A))) = true := h
        simp only [Bool.or_eq_true, Bool.and_eq_true, decide_eq_true_eq] at h
        repeat (first | refine byW ?_ | (refine byV ?_; intro w hw))
        exact ⟨_, rfl, ret_b rfl (uniq_no (.inr (.inr (.inr (.inr (.inr (not_nodup hki (mapG hx) ((mapG hy).trans (congrArg some ((key_iff x y).2 h).symm))))))))), hw.ds [0, 0, 0]⟩
      · have h : ((decide (x.A = y.A) && decide (x.B = y.B)) || (decide (x.A = y.B) && decide (x.B = y.A))) = false := h
        have h : ¬ linkKey x = linkKey y := fun q => by
          have q := (key_iff x y).1 q
          have : ((decide (x.A = y.A) && decide (x.B = y.B)) || (decide (x.A = y.B) && decide (x.B = y.A))) = true := by
            simp only [Bool.or_eq_true, Bool.and_eq_true, decide_eq_true_eq]; exact q
          rw [h] at this; cases this
        repeat (first | refine byW ?_ | (refine byV ?_; intro w hw))
        exact ⟨μ2 - 1, by omega, k + 1, by omega, ⟨rfl, rfl, rfl, trivial⟩, no_step hno0 (mapG hy) h, hw.ds [0, 0]⟩
    have hki : i ≤ k := by have := of_decide_eq_false h; omega
    repeat (first | refine byW ?_ | (refine byV ?_; intro w hw))
    exact ⟨μ - 1, by omega, i + 1, by omega, ⟨rfl, rfl, trivial⟩, nodup_succ hnd0 (mapG hx) fun j y hj => hno0 j y (by omega), hw⟩
  have hin : n3 ≤ i := by have := of_decide_eq_false h; omega
  clear h
  rw [List.take_of_length_le (by rw [List.length_map]; omega)] at hnd0
  have hq30 := hnd0
  clear hi hρ hnd0
  repeat (first | refine byW ?_ | (refine byV ?_; intro w hw))
  refine ⟨_, rfl, ret_b rfl ?_, hw.drop⟩
  have hcn' : H.Caches.all (fun c => decide c.Cores.Nodup) = true := List.all_eq_true.2 fun c hc => decide_eq_true (hcn c hc)
  unfold uniqueB
  rw [hcn', decide_eq_true hq10, decide_eq_true hq20, decide_eq_true hq40, decide_eq_true hq50, decide_eq_true hq51, decide_eq_true hq30]
  rfl
end Go.Proofs.YteiijmclobggjaaGreat
end
/- The reference's Validate: nested caches. -/
section
open Go Mk
namespace Go.Proofs.YteiijmclobggjaaGreat
set_option maxHeartbeats 16000000
attribute [local irreducible] Calls
theorem hasR_any {Γ : Gho} {S : List Res} {w : World} {v : Value} {xs : List Int} (hr : RdS Γ S v 1 (intRows xs)) (x : Int) (hw : Wd Γ S w) : Calls Tryz.prog 79 #[v, .int .i64 x] w fun e w' => e = .returned (.bool (memI x xs)) ∧ Wd Γ S w' := by
  obtain ⟨a, n, c, rfl, hn, hnc, hc⟩ := hr.shape
  have hn0 := hn
  rw [show (intRows xs).length = xs.length from List.length_map ..] at hn
  refine calls_of_W Tryz.func79 rfl rfl ?_
  repeat (first | refine byW ?_ | (refine byV ?_; intro w hw))
  refine W_loop (fun μ ρ w => ∃ (k : Nat), μ + k = n ∧ Has ρ [(0, .slice a n c), (1, .int .i64 x), (5, .int .i64 k)] ∧ memI x xs = memI x (xs.drop k) ∧ Wd Γ S w) n ⟨0, by omega, ⟨rfl, rfl, rfl, trivial⟩, rfl, hw⟩ ?_
  clear hw
  rintro μ ρ w ⟨k, hk, hρ, hal, hw⟩
  rw [hρ.eq]
  repeat (first | refine byW ?_ | (refine byV ?_; intro w hw))
  refine W_cond rfl (fun h => ?_) (fun h => ?_)
  · have hkn : k < n := by have := of_decide_eq_true h; omega
    clear h
    obtain ⟨y, hy⟩ := get_lt (l := xs) (k := k) (by omega)
    have hm : memI x (xs.drop k) = (decide (x = y) || memI x (xs.drop (k + 1))) := by unfold memI; rw [dropG hy, List.any_cons]
    rw [hm] at hal
    repeat (first | refine byW ?_ | (refine byV ?_; intro w hw))
    refine W_cond rfl (fun h => ?_) (fun h => ?_)
    · have h : y = x := of_decide_eq_true h
      repeat (first | refine byW ?_ | (refine byV ?_; intro w hw))
      exact ⟨_, rfl, ret_b rfl (by rw [hal, decide_eq_true h.symm]; rfl), hw⟩
    · have h : ¬ y = x := of_decide_eq_false h
      rw [decide_eq_false (fun q => h q.symm), Bool.false_or] at hal
      repeat (first | refine byW ?_ | (refine byV ?_; intro w hw))
      exact ⟨μ - 1, by omega, k + 1, by omega, ⟨rfl, rfl, rfl, trivial⟩, hal, hw⟩
  · have hkn : n ≤ k := by have := of_decide_eq_false h; omega
    have : memI x (xs.drop k) = false := by rw [List.drop_eq_nil_of_le (by omega)]; rfl
    rw [this] at hal
    repeat (first | refine byW ?_ | (refine byV ?_; intro w hw))
    exact ⟨_, rfl, ret_b rfl hal.symm, hw⟩
instance pg_hasR {Γ : Gho} {v : Value} {xs : List Int} [hr : SlC Γ v 1 (intRows xs)] (x : Int) : PG Tryz.prog Γ 79 [v, .int .i64 x] (.bool (memI x xs)) := ⟨fun S w hw => hasR_any hr.h.rdS x hw⟩
def ascP (l : List Int) : Prop := ∀ (i : Nat) (a b : Int), l[i]? = some a → l[i + 1]? = some b → a < b
def NestP (l : List CacheT) : Prop := (∀ c ∈ l, ascP c.Cores) ∧ ∀ (i k : Nat) (a b : CacheT), l[i]? = some a → l[k]? = some b → pairB i k a b = true
theorem nested_any {Γ : Gho} {u : Value} {H : HwT} [hh : HwR Γ u H] {S : List Res} {w : World} (hw : Wd Γ S w) :
    Calls Tryz.prog 52 #[u] w fun e w' => e = .returned (.bool (decP (NestP H.Caches))) ∧ Wd Γ S w' := by
  obtain ⟨a1, n1, c1, a2, n2, c2, a3, n3, c3, a4, n4, c4, a5, n5, c5, cs, rfl, hcs, hok, hsz, r1, r2, r3, r4, r5⟩ := hh.h
  obtain ⟨hn2, hm2, hx2⟩ := rep_facts r2
  simp only [List.length_map] at hn2
  have hget : ∀ (i : Nat) (x : CacheH), cs[i]? = some x → H.Caches[i]? = some x.T := fun i x h => by rw [← hcs]; simp [h]
  refine calls_of_W Tryz.func52 rfl rfl ?_
  repeat (first | refine byW ?_ | (refine byV ?_; intro w hw))
  refine lBox ?_
  intro b1 w hw
  have hw : Wd Γ (.blk b1 (hwC H a1 n1 c1 a2 n2 c2 a3 n3 c3 a4 n4 c4 a5 n5 c5) :: S) w := hw
  repeat (first | refine byW ?_ | (refine byV ?_; intro w hw))
  refine W_loop (fun μ ρ w => ∃ (k : Nat), μ + k = n2 ∧ Has ρ [(1, .pointer (some ⟨b1, 0, none⟩)), (3, .int .i64 k)] ∧ (∀ (i : Nat) (x : CacheH), i < k → cs[i]? = some x → ascP x.Cores) ∧ Wd Γ (.blk b1 (hwC H a1 n1 c1 a2 n2 c2 a3 n3 c3 a4 n4 c4 a5 n5 c5) :: S) w) n2 ⟨0, by omega, ⟨rfl, rfl, trivial⟩, fun i x h => by omega, hw⟩ ?_
  clear hw
  rintro μ ρ w ⟨k, hk, hρ, hall, hw⟩
  rw [hρ.eq]
  repeat (first | refine byW ?_ | (refine byV ?_; intro w hw))
  refine W_cond rfl (fun h => ?_) (fun h => ?_)
  · have hkn : k < n2 := by have := of_decide_eq_true h; omega
    clear h
    obtain ⟨x, hx⟩ := get_lt (l := cs) (k := k) (by omega)
    have hcx := hok x (List.mem_of_getElem? hx)
    obtain ⟨hxn, hxm, hxc⟩ := hcx.facts
    unfold COk at hcx
    repeat (first | refine byW ?_ | (refine byV ?_; intro w hw))
    refine lAlloc ?_
    intro b4 w hw
    refine lStore ?_
    intro w hw
    have hw : Wd Γ (.blk b4 (.cells (cC x).toArray 65) :: .blk b1 (hwC H a1 n1 c1 a2 n2 c2 a3 n3 c3 a4 n4 c4 a5 n5 c5) :: S) w := hw
    repeat (first | refine byW ?_ | (refine byV ?_; intro w hw))
    refine W_loop (fun μ2 ρ w => ∃ (j : Nat), μ2 + j = x.N + 1 ∧ 1 ≤ j ∧ Has ρ [(1, .pointer (some ⟨b1, 0, none⟩)), (3, .int .i64 k), (4, .pointer (some ⟨b4, 0, none⟩)), (5, .int .i64 j)] ∧ (∀ (i : Nat) (a b : Int), i + 1 < j → x.Cores[i]? = some a → x.Cores[i + 1]? = some b → a < b) ∧ Wd Γ (.blk b4 (.cells (cC x).toArray 65) :: .blk b1 (hwC H a1 n1 c1 a2 n2 c2 a3 n3 c3 a4 n4 c4 a5 n5 c5) :: S) w) x.N ⟨1, by omega, by omega, ⟨rfl, rfl, rfl, rfl, trivial⟩, fun i a b h => by omega, hw⟩ ?_
    clear hw hρ
    rintro μ2 ρ w ⟨j, hj, hj1, hρ, hasc, hw⟩
    rw [hρ.eq]
    repeat (first | refine byW ?_ | (refine byV ?_; intro w hw))
    refine W_cond rfl (fun h => ?_) (fun h => ?_)
    · have hjn : j < x.N := by have := of_decide_eq_true h; omega
      clear h
      obtain ⟨i, rfl⟩ : ∃ i, j = i + 1 := ⟨j - 1, by omega⟩
      obtain ⟨b, hb⟩ := get_lt (l := x.Cores) (k := i + 1) (by omega)
      obtain ⟨a, ha⟩ := get_lt (l := x.Cores) (k := i) (by omega)
      have ha' : x.Cores[(((i + 1 : Nat) : Int) - 1).toNat]? = some a := by rw [show (((i + 1 : Nat) : Int) - 1).toNat = i by omega]; exact ha
      repeat (first | refine byW ?_ | (refine byV ?_; intro w hw))
      refine W_quiet (by kernel_rfl) (by kernel_rfl) hw ?_
      repeat (first | refine Q_nil ?_ | (apply Q_plain; first | (apply Q_go; first | refine qP ?_ | refine qPg ?_) | refine qY ?_) | (apply Q_guarded; first | (apply Q_go; first | refine qPG ?_ | refine qPgG ?_) | refine qG ?_))
      intro w hw
      repeat (first | refine byW ?_ | (refine byV ?_; intro w hw))
      refine W_cond rfl (fun h => ?_) (fun h => ?_)
      · have h : b ≤ a := of_decide_eq_true h
        repeat (first | refine byW ?_ | (refine byV ?_; intro w hw))
        refine ⟨_, rfl, ret_b rfl ?_, hw.ds [0, 0]⟩
        refine (decP_f fun hP => ?_).symm
        have := hP.1 x.T (List.mem_of_getElem? (hget k x hx)) i a b ha hb
        omega
      · have h : ¬ b ≤ a := of_decide_eq_false h
        repeat (first | refine byW ?_ | (refine byV ?_; intro w hw))
        refine ⟨μ2 - 1, by omega, i + 1 + 1, by omega, by omega, ⟨rfl, rfl, rfl, rfl, trivial⟩, fun i' a' b' hi' hA hB => ?_, hw⟩
        by_cases e : i' = i
        · subst e; rw [ha] at hA; rw [hb] at hB; cases hA; cases hB; omega
        · exact hasc i' a' b' (by omega) hA hB
    · have hjn : x.N ≤ j := by have := of_decide_eq_false h; omega
      repeat (first | refine byW ?_ | (refine byV ?_; intro w hw))
      refine ⟨μ - 1, by omega, k + 1, by omega, ⟨rfl, rfl, trivial⟩, fun i y hi hy => ?_, hw.drop⟩
      by_cases e : i = k
      · subst e; rw [hx] at hy; cases hy
        exact fun i a b ha hb => hasc i a b (by have := (List.getElem?_eq_some_iff.1 hb).1; omega) ha hb
      · exact hall i y (by omega) hy
  have hkn : n2 ≤ k := by have := of_decide_eq_false h; omega
  have hsort : ∀ (i : Nat) (x : CacheH), cs[i]? = some x → ascP x.Cores := fun i x hx => hall i x (by have := (List.getElem?_eq_some_iff.1 hx).1; omega) hx
  clear h hkn hall hρ hk
  repeat (first | refine byW ?_ | (refine byV ?_; intro w hw))
  refine W_loop (fun μ ρ w => ∃ (k : Nat), μ + k = n2 ∧ Has ρ [(1, .pointer (some ⟨b1, 0, none⟩)), (6, .int .i64 k)] ∧ (∀ (i j : Nat) (a b : CacheH), i < k → cs[i]? = some a → cs[j]? = some b → pairB i j a.T b.T = true) ∧ Wd Γ (.blk b1 (hwC H a1 n1 c1 a2 n2 c2 a3 n3 c3 a4 n4 c4 a5 n5 c5) :: S) w) n2 ⟨0, by omega, ⟨rfl, rfl, trivial⟩, fun i j a b h => by omega, hw⟩ ?_
  clear hw
  rintro μ ρ w ⟨i, hi, hρ, hall, hw⟩
  rw [hρ.eq]
  repeat (first | refine byW ?_ | (refine byV ?_; intro w hw))
  refine W_cond rfl (fun h => ?_) (fun h => ?_)
  · have hin : i < n2 := by have := of_decide_eq_true h; omega
    clear h
    obtain ⟨x, hx⟩ := get_lt (l := cs) (k := i) (by omega)
    have hcx := hok x (List.mem_of_getElem? hx)
    obtain ⟨hxn, hxm, hxc⟩ := hcx.facts
    unfold COk at hcx
    repeat (first | refine byW ?_ | (refine byV ?_; intro w hw))
    refine W_loop (fun μ2 ρ w => ∃ (k : Nat), μ2 + k = n2 ∧ Has ρ [(1, .pointer (some ⟨b1, 0, none⟩)), (6, .int .i64 i), (7, .int .i64 k)] ∧ (∀ (j : Nat) (b : CacheH), j < k → cs[j]? = some b → pairB i j x.T b.T = true) ∧ Wd Γ (.blk b1 (hwC H a1 n1 c1 a2 n2 c2 a3 n3 c3 a4 n4 c4 a5 n5 c5) :: S) w) n2 ⟨0, by omega, ⟨rfl, rfl, rfl, trivial⟩, fun j b h => by omega, hw⟩ ?_
    clear hw hρ
    rintro μ2 ρ w ⟨k, hk, hρ, hall2, hw⟩
    rw [hρ.eq]
    repeat (first | refine byW ?_ | (refine byV ?_; intro w hw))
    refine W_cond rfl (fun h2 => ?_) (fun h2 => ?_)
    · have hkn : k < n2 := by have := of_decide_eq_true h2; omega
      clear h2
      obtain ⟨y, hy⟩ := get_lt (l := cs) (k := k) (by omega)
      have hcy := hok y (List.mem_of_getElem? hy)
      obtain ⟨hyn, hym, hyc⟩ := hcy.facts
      haveI : SlC Γ (.slice y.A y.N y.C) 1 (intRows y.Cores) := ⟨hcy⟩
      repeat (first | refine byW ?_ | (refine byV ?_; intro w hw))
      refine W_mixed [.blk b1 (hwC H a1 n1 c1 a2 n2 c2 a3 n3 c3 a4 n4 c4 a5 n5 c5)] [fun _ => [], fun _ => [], fun _ => S] [[],[],[],[],[],[],[],[],[],[],[0],[1],[0],[1]] [[],[],[],[],[],[],[],[],[],[],[0],[1],[0],[1]] [[8], [9], []] (by have := hw; simpa [List.range, List.range.loop, ML] using this) ?_
      repeat (first | refine mY ?_ | refine mP ?_ | refine mPg ?_)
      refine mAlloc ?_
      refine mAlloc ?_
      refine mStoreAt ?_
      refine mStoreAt ?_
      refine mEnd fun w g hw => ?_
      have hw : Wd Γ (.blk b1 (hwC H a1 n1 c1 a2 n2 c2 a3 n3 c3 a4 n4 c4 a5 n5 c5) :: atP (g 8) _ :: atP (g 9) _ :: (S ++ [])) w := hw
      rw [List.append_nil] at hw
      obtain ⟨b8, hg8, hw⟩ := (Wd.ps [1] hw).openAt
      have hw : Wd Γ (.blk b8 (.cells (cC x).toArray 65) :: .blk b1 (hwC H a1 n1 c1 a2 n2 c2 a3 n3 c3 a4 n4 c4 a5 n5 c5) :: atP (g 9) _ :: S) w := hw
      obtain ⟨b9, hg9, hw⟩ := (Wd.ps [2] hw).openAt
      have hw : Wd Γ (.blk b9 (.cells (cC y).toArray 65) :: .blk b8 (.cells (cC x).toArray 65) :: .blk b1 (hwC H a1 n1 c1 a2 n2 c2 a3 n3 c3 a4 n4 c4 a5 n5 c5) :: S) w := hw
      refine W_has (l := [(1, .pointer (some ⟨b1, 0, none⟩)), (6, .int .i64 i), (7, .int .i64 k), (8, .pointer (some ⟨b8, 0, none⟩)), (9, .pointer (some ⟨b9, 0, none⟩))]) ⟨rfl, rfl, rfl, hg8, hg9, trivial⟩ fun ρ' hρ' => ?_
      clear hg8 hg9
      rw [hρ'.eq]
      clear hρ'
      repeat (first | refine byW ?_ | (refine byV ?_; intro w hw))
      refine W_cond rfl (fun h3 => ?_) (fun h3 => ?_)
      · have hp : pairB i k x.T y.T = true := by
          have h3 : (decide ((i : Int) = k) || decide (y.Level < x.Level)) = true := h3
          unfold pairB CacheH.T
          rw [show decide (i = k) = decide ((i : Int) = k) from decide_eq_decide.2 (by omega)]
          rw [h3]; rfl
        repeat (first | refine byW ?_ | (refine byV ?_; intro w hw))
        exact ⟨μ2 - 1, by omega, k + 1, by omega, ⟨rfl, rfl, rfl, trivial⟩, allI_step (p := fun j b => pairB i j x.T b.T) hall2 hy hp, hw.ds [0, 0]⟩
      · have h3 : (decide ((i : Int) = k) || decide (y.Level < x.Level)) = false := h3
        repeat (first | refine byW ?_ | (refine byV ?_; intro w hw))
        refine W_loop (fun μ3 ρ w => ∃ (j : Nat), μ3 + j = x.N ∧ Has ρ [(1, .pointer (some ⟨b1, 0, none⟩)), (6, .int .i64 i), (7, .int .i64 k), (8, .pointer (some ⟨b8, 0, none⟩)), (9, .pointer (some ⟨b9, 0, none⟩)), (10, .int .i64 (sharedN (x.Cores.take j) y.Cores)), (11, .int .i64 j)] ∧ Wd Γ (.blk b9 (.cells (cC y).toArray 65) :: .blk b8 (.cells (cC x).toArray 65) :: .blk b1 (hwC H a1 n1 c1 a2 n2 c2 a3 n3 c3 a4 n4 c4 a5 n5 c5) :: S) w) x.N ⟨0, by omega, ⟨rfl, rfl, rfl, rfl, rfl, rfl, rfl, trivial⟩, hw⟩ ?_
        clear hw
        rintro μ3 ρ w ⟨j, hj, hρ, hw⟩
        rw [hρ.eq]
        have hle : sharedN (x.Cores.take j) y.Cores ≤ j := Nat.le_trans (List.length_filter_le _ _) (by simp; omega)
        repeat (first | refine byW ?_ | (refine byV ?_; intro w hw))
        refine W_cond rfl (fun h4 => ?_) (fun h4 => ?_)
        · have hjn : j < x.N := by have := of_decide_eq_true h4; omega
          obtain ⟨v, hv⟩ := get_lt (l := x.Cores) (k := j) (by omega)
          have hst : sharedN (x.Cores.take (j + 1)) y.Cores = sharedN (x.Cores.take j) y.Cores + (if memI v y.Cores = true then 1 else 0) := by
            unfold sharedN; rw [take_succ_of hv, List.filter_append, List.length_append]
            congr 1
            by_cases e : memI v y.Cores = true <;> simp [e]
          repeat (first | refine byW ?_ | (refine byV ?_; intro w hw))
          refine W_quiet (by kernel_rfl) (by kernel_rfl) hw ?_
          repeat (first | refine Q_nil ?_ | (apply Q_plain; first | (apply Q_go; first | refine qP ?_ | refine qPg ?_) | refine qY ?_) | (apply Q_guarded; first | (apply Q_go; first | refine qPG ?_ | refine qPgG ?_) | refine qG ?_))
          intro w hw
          repeat (first | refine byW ?_ | (refine byV ?_; intro w hw))
          refine W_cond rfl (fun h5 => ?_) (fun h5 => ?_)
          · rw [if_pos h5] at hst
            repeat (first | refine byW ?_ | (refine byV ?_; intro w hw))
            exact ⟨μ3 - 1, by omega, j + 1, by omega, ⟨rfl, rfl, rfl, rfl, rfl, by rw [hst]; rfl, rfl, trivial⟩, hw⟩
          · rw [if_neg (by rw [h5]; simp)] at hst
            repeat (first | refine byW ?_ | (refine byV ?_; intro w hw))
            exact ⟨μ3 - 1, by omega, j + 1, by omega, ⟨rfl, rfl, rfl, rfl, rfl, by rw [hst]; rfl, rfl, trivial⟩, hw⟩
        · have hjn : ¬ j < x.N := by have := of_decide_eq_false h4; omega
          rw [List.take_of_length_le (by omega)]
          repeat (first | refine byW ?_ | (refine byV ?_; intro w hw))
          have key : pairB i k x.T y.T = !(decide ((0 : Int) < (sharedN x.Cores y.Cores : Nat)) && (decide (x.Level = y.Level) || decide (((sharedN x.Cores y.Cores : Nat) : Int) < x.N))) := by
            unfold pairB CacheH.T
            rw [show decide (i = k) = decide ((i : Int) = k) from decide_eq_decide.2 (by omega), h3]
            rw [show decide (0 < sharedN x.Cores y.Cores) = decide ((0 : Int) < (sharedN x.Cores y.Cores : Nat)) from decide_eq_decide.2 (by omega)]
            rw [show decide (sharedN x.Cores y.Cores < x.Cores.length) = decide (((sharedN x.Cores y.Cores : Nat) : Int) < x.N) from decide_eq_decide.2 (by omega)]
            rfl
          refine W_cond rfl (fun h6 => ?_) (fun h6 => ?_)
          · have hp : pairB i k x.T y.T = false := key.trans (congrArg (fun b => !b) h6)
            repeat (first | refine byW ?_ | (refine byV ?_; intro w hw))
            refine ⟨_, rfl, ret_b rfl ?_, hw.ds [0, 0, 0]⟩
            refine (decP_f fun hP => ?_).symm
            rw [hP.2 i k x.T y.T (hget i x hx) (hget k y hy)] at hp; cases hp
          · have hp : pairB i k x.T y.T = true := key.trans (congrArg (fun b => !b) h6)
            repeat (first | refine byW ?_ | (refine byV ?_; intro w hw))
            exact ⟨μ2 - 1, by omega, k + 1, by omega, ⟨rfl, rfl, rfl, trivial⟩, allI_step (p := fun j b => pairB i j x.T b.T) hall2 hy hp, hw.ds [0, 0]⟩
    · have hkn : n2 ≤ k := by have := of_decide_eq_false h2; omega
      repeat (first | refine byW ?_ | (refine byV ?_; intro w hw))
      refine ⟨μ - 1, by omega, i + 1, by omega, ⟨rfl, rfl, trivial⟩, fun i' j a b h1 ha hb => ?_, hw⟩
      by_cases e : i' = i
      · subst e; rw [hx] at ha; cases ha
        exact hall2 j b (by have := (List.getElem?_eq_some_iff.1 hb).1; omega) hb
      · exact hall i' j a b (by omega) ha hb
  · have hin : n2 ≤ i := by have := of_decide_eq_false h; omega
    repeat (first | refine byW ?_ | (refine byV ?_; intro w hw))
    refine ⟨_, rfl, ret_b rfl ?_, hw.drop⟩
    refine (decP_t ⟨fun c hc => ?_, fun p q a b ha hb => ?_⟩).symm
    · rw [← hcs] at hc
      obtain ⟨x, hx, rfl⟩ := List.mem_map.1 hc
      obtain ⟨q, hq, he⟩ := List.getElem_of_mem hx
      exact hsort q x (by rw [List.getElem?_eq_getElem hq, he])
    · rw [← hcs, List.getElem?_map] at ha hb
      obtain ⟨x, hx, rfl⟩ := Option.map_eq_some_iff.1 ha
      obtain ⟨y, hy, rfl⟩ := Option.map_eq_some_iff.1 hb
      exact hall p q x y (by have := (List.getElem?_eq_some_iff.1 hx).1; omega) hx hy
theorem nest_hier {l : List CacheT} (hn : ∀ c ∈ l, c.Cores.Nodup) : NestP l ↔ HierP l := by
  unfold NestP HierP
  refine and_congr ⟨fun h c hc i a b ha hb => ?_, fun h c hc i a b ha hb => ?_⟩ Iff.rfl
  · exact Int.le_of_lt (h c hc i a b ha hb)
  · have h1 := h c hc i a b ha hb
    have h2 : b ≠ a := fun e => not_nodup (Nat.lt_succ_self i) hb (by rw [e]; exact ha) (hn c hc)
    omega
end Go.Proofs.YteiijmclobggjaaGreat
end
/- The reference's Validate = the program's. -/
section
open Go Mk
namespace Go.Proofs.YteiijmclobggjaaGreat
set_option maxHeartbeats 16000000
attribute [local irreducible] Calls
/-- What is read of a description is in range where it is not signed. -/
class WideH (H : HwT) : Prop where h : MemWide H
instance pg_namesR {Γ : Gho} {u : Value} {H : HwT} [hh : HwR Γ u H] : PG Tryz.prog Γ 48 [u] (.bool (namesB H)) := ⟨fun S w hw => names_any hw⟩
instance pg_rangesR {Γ : Gho} {u : Value} {H : HwT} [hh : HwR Γ u H] : PG Tryz.prog Γ 49 [u] (.bool (coresRB H && regionsRB H)) := ⟨fun S w hw => ranges_any hw⟩
instance pg_duplicateR {Γ : Gho} {u : Value} {H : HwT} [hh : HwR Γ u H] : PG Tryz.prog Γ 51 [u] (.bool (!uniqueB H)) := ⟨fun S w hw => duplicate_any hw⟩
theorem coreAt_neg {l : List CoreT} {id : Int} : decide (coreAt l id < 0) = !(l.any fun x => decide (x.ID = id)) := by
  rw [← coreAt_any, ← decide_not]
  congr 1
  apply propext
  omega
theorem bool_not {b : Bool} (h : (!b) = false) : b = true := by simpa using h
instance pg_RValidate {Γ : Gho} {u : Value} {H : HwT} [hh : HwR Γ u H] [hwd : WideH H] : PG Tryz.prog Γ 25 [u] (.int .i64 (validS H)) := ⟨fun S w hw => by
  have hh' := hh
  obtain ⟨a1, n1, c1, a2, n2, c2, a3, n3, c3, a4, n4, c4, a5, n5, c5, cs, rfl, hcs, hok, hsz, r1, r2, r3, r4, r5⟩ := hh.h
  obtain ⟨hn1, hm1, hx1⟩ := rep_facts r1
  obtain ⟨hn2, hm2, hx2⟩ := rep_facts r2
  obtain ⟨hn3, hm3, hx3⟩ := rep_facts r3
  obtain ⟨hn4, hm4, hx4⟩ := rep_facts r4
  obtain ⟨hn5, hm5, hx5⟩ := rep_facts r5
  simp only [List.length_map] at hn1 hn2 hn3 hn4 hn5
  have hcl : H.Caches.length = cs.length := by rw [← hcs, List.length_map]
  refine calls_of_W Tryz.func25 rfl rfl ?_
  repeat (first | refine byW ?_ | (refine byV ?_; intro w hw))
  refine lBox ?_
  intro b1 w hw
  have hw : Wd Γ (.blk b1 (hwC H a1 n1 c1 a2 n2 c2 a3 n3 c3 a4 n4 c4 a5 n5 c5) :: S) w := hw
  unfold validS
  repeat (first | refine byW ?_ | (refine byV ?_; intro w hw))
  refine W_cond rfl (fun h => ?_) (fun h => ?_)
  · rw [if_pos (by simpa using h)]
    repeat (first | refine byW ?_ | (refine byV ?_; intro w hw))
    exact ⟨_, rfl, rfl, hw.drop⟩
  rw [if_neg (by rw [bool_not h]; simp)]
  clear h
  repeat (first | refine byW ?_ | (refine byV ?_; intro w hw))
  refine W_cond rfl (fun h => ?_) (fun h => ?_)
  · have h : (((((decide ((n1 : Int) = 0) || decide ((n1 : Int) > 32)) || decide ((n2 : Int) > 64)) || decide ((n3 : Int) > 256)) || decide ((n4 : Int) > 64)) || decide ((n5 : Int) > 32)) = true := h
    rw [if_pos (by
      unfold countsB
      simp only [Bool.or_eq_true, decide_eq_true_eq] at h
      rw [Bool.eq_false_iff]
      simp only [ne_eq, Bool.and_eq_true, decide_eq_true_eq]
      omega)]
    repeat (first | refine byW ?_ | (refine byV ?_; intro w hw))
    exact ⟨_, rfl, rfl, hw.drop⟩
  have h : (((((decide ((n1 : Int) = 0) || decide ((n1 : Int) > 32)) || decide ((n2 : Int) > 64)) || decide ((n3 : Int) > 256)) || decide ((n4 : Int) > 64)) || decide ((n5 : Int) > 32)) = false := h
  have hcnt : countsB H = true := by
    unfold countsB
    simp only [Bool.or_eq_false_iff, decide_eq_false_iff_not] at h
    simp only [Bool.and_eq_true, decide_eq_true_eq]
    omega
  rw [if_neg (by rw [hcnt]; simp)]
  clear h
  repeat (first | refine byW ?_ | (refine byV ?_; intro w hw))
  refine W_cond rfl (fun h => ?_) (fun h => ?_)
  · rw [if_pos (notF h)]
    repeat (first | refine byW ?_ | (refine byV ?_; intro w hw))
    exact ⟨_, rfl, rfl, hw.drop⟩
  have h := bool_not h
  rw [if_neg (by rw [h]; simp)]
  rw [Bool.and_eq_true] at h
  obtain ⟨hcr, hrr⟩ := h
  haveI pal : PG Tryz.prog Γ 50 [.agg #[.string H.Name, .slice a1 n1 c1, .slice a2 n2 c2, .slice a3 n3 c3, .slice a4 n4 c4, .slice a5 n5 c5]] (.bool (alignRB H)) := ⟨fun S w hw => by
    have := aligned_any (hh := hh') hw
    rwa [align_ref hwd.h hrr] at this⟩
  haveI pov : PG Tryz.prog Γ 53 [.agg #[.string H.Name, .slice a1 n1 c1, .slice a2 n2 c2, .slice a3 n3 c3, .slice a4 n4 c4, .slice a5 n5 c5]] (.bool (!disjB H)) := ⟨fun S w hw => overlap_any (hh := hh') hcnt hw⟩
  haveI pco : PG Tryz.prog Γ 54 [.agg #[.string H.Name, .slice a1 n1 c1, .slice a2 n2 c2, .slice a3 n3 c3, .slice a4 n4 c4, .slice a5 n5 c5]] (.bool (connB H)) := ⟨fun S w hw => connectedR_any (hh := hh') hcnt hcr hrr hw⟩
  repeat (first | refine byW ?_ | (refine byV ?_; intro w hw))
  refine W_cond rfl (fun h => ?_) (fun h => ?_)
  · rw [if_pos (by simpa using h)]
    repeat (first | refine byW ?_ | (refine byV ?_; intro w hw))
    exact ⟨_, rfl, rfl, hw.drop⟩
  rw [if_neg (by rw [bool_not h]; simp)]
  clear h
  repeat (first | refine byW ?_ | (refine byV ?_; intro w hw))
  refine W_cond rfl (fun h => ?_) (fun h => ?_)
  · rw [if_pos (by simpa using h)]
    repeat (first | refine byW ?_ | (refine byV ?_; intro w hw))
    exact ⟨_, rfl, rfl, hw.drop⟩
  have hun := bool_not h
  rw [if_neg (by rw [hun]; simp)]
  clear h
  haveI pne : PG Tryz.prog Γ 52 [.agg #[.string H.Name, .slice a1 n1 c1, .slice a2 n2 c2, .slice a3 n3 c3, .slice a4 n4 c4, .slice a5 n5 c5]] (.bool (hierB H)) := ⟨fun S w hw => by
    have := nested_any (hh := hh') hw
    have e : decP (NestP H.Caches) = hierB H := by
      unfold hierB
      have hi : NestP H.Caches ↔ HierP H.Caches := nest_hier fun c hc => by
        unfold uniqueB at hun
        simp only [Bool.and_eq_true, List.all_eq_true, decide_eq_true_eq] at hun
        exact hun.1 c hc
      by_cases hp : HierP H.Caches
      · rw [decP_t hp, decP_t (hi.2 hp)]
      · rw [decP_f hp, decP_f (fun h => hp (hi.1 h))]
    rwa [e] at this⟩
  repeat (first | refine byW ?_ | (refine byV ?_; intro w hw))
  have hknown : ∀ (k : Nat) (x : CacheH), cs[k]? = some x → knownB H = true → ∀ id ∈ x.Cores, (H.Cores.any fun y => decide (y.ID = id)) = true := fun k x hx hk id hid => by
    unfold knownB at hk
    simp only [List.all_eq_true] at hk
    exact hk x.T (by rw [← hcs]; exact List.mem_map_of_mem (List.mem_of_getElem? hx)) id hid
  refine W_loop (fun μ ρ w => ∃ (k : Nat), μ + k = n2 ∧ Has ρ [(1, .pointer (some ⟨b1, 0, none⟩)), (3, .int .i64 k)] ∧ (∀ (i : Nat) (x : CacheH), i < k → cs[i]? = some x → ∀ id ∈ x.Cores, (H.Cores.any fun y => decide (y.ID = id)) = true) ∧ Wd Γ (.blk b1 (hwC H a1 n1 c1 a2 n2 c2 a3 n3 c3 a4 n4 c4 a5 n5 c5) :: S) w) n2 ⟨0, by omega, ⟨rfl, rfl, trivial⟩, fun i x h => by omega, hw⟩ ?_
  clear hw
  rintro μ ρ w ⟨k, hk, hρ, hall, hw⟩
  rw [hρ.eq]
  clear hρ
  repeat (first | refine byW ?_ | (refine byV ?_; intro w hw))
  refine W_cond rfl (fun h => ?_) (fun h => ?_)
  · have hkn : k < n2 := by have := of_decide_eq_true h; omega
    clear h
    obtain ⟨x, hx⟩ := get_lt (l := cs) (k := k) (by omega)
    have hcx := hok x (List.mem_of_getElem? hx)
    obtain ⟨hxn, hxm, hxc⟩ := hcx.facts
    unfold COk at hcx
    repeat (first | refine byW ?_ | (refine byV ?_; intro w hw))
    refine W_loop (fun μ2 ρ w => ∃ (j : Nat), μ2 + j = x.N ∧ Has ρ [(1, .pointer (some ⟨b1, 0, none⟩)), (3, .int .i64 k), (4, .int .i64 j)] ∧ (∀ (i : Nat) (id : Int), i < j → x.Cores[i]? = some id → (H.Cores.any fun y => decide (y.ID = id)) = true) ∧ Wd Γ (.blk b1 (hwC H a1 n1 c1 a2 n2 c2 a3 n3 c3 a4 n4 c4 a5 n5 c5) :: S) w) x.N ⟨0, by omega, ⟨rfl, rfl, rfl, trivial⟩, fun i id h => by omega, hw⟩ ?_
    clear hw
    rintro μ2 ρ w ⟨j, hj, hρ, hall2, hw⟩
    rw [hρ.eq]
    clear hρ
    repeat (first | refine byW ?_ | (refine byV ?_; intro w hw))
    refine W_cond rfl (fun h => ?_) (fun h => ?_)
    · have hjn : j < x.N := by have := of_decide_eq_true h; omega
      clear h
      obtain ⟨id, hid⟩ := get_lt (l := x.Cores) (k := j) (by omega)
      repeat (first | refine byW ?_ | (refine byV ?_; intro w hw))
      refine W_quiet (by kernel_rfl) (by kernel_rfl) hw ?_
      repeat (first | refine Q_nil ?_ | (apply Q_plain; first | (apply Q_go; first | refine qP ?_ | refine qPg ?_) | refine qY ?_) | (apply Q_guarded; first | (apply Q_go; first | refine qPG ?_ | refine qPgG ?_) | refine qG ?_))
      intro w hw
      refine W_cond rfl (fun h => ?_) (fun h => ?_)
      · have h : decide (coreAt H.Cores id < 0) = true := h
        rw [coreAt_neg, Bool.not_eq_true'] at h
        have hkf : knownB H = false := by
          cases hkk : knownB H with
          | false => rfl
          | true => rw [hknown k x hx hkk id (List.mem_of_getElem? hid)] at h; cases h
        rw [if_pos hkf]
        repeat (first | refine byW ?_ | (refine byV ?_; intro w hw))
        exact ⟨_, rfl, rfl, hw.drop⟩
      · have h : decide (coreAt H.Cores id < 0) = false := h
        rw [coreAt_neg, Bool.not_eq_false'] at h
        repeat (first | refine byW ?_ | (refine byV ?_; intro w hw))
        refine ⟨μ2 - 1, by omega, j + 1, by omega, ⟨rfl, rfl, rfl, trivial⟩, fun i id' hi hid' => ?_, hw⟩
        by_cases e : i = j
        · subst e; rw [hid] at hid'; cases hid'; exact h
        · exact hall2 i id' (by omega) hid'
    · have hjn : ¬ j < x.N := by have := of_decide_eq_false h; omega
      repeat (first | refine byW ?_ | (refine byV ?_; intro w hw))
      refine ⟨μ - 1, by omega, k + 1, by omega, ⟨rfl, rfl, trivial⟩, fun i x' hi hx' id hid => ?_, hw⟩
      by_cases e : i = k
      · subst e; rw [hx] at hx'; cases hx'
        obtain ⟨q, hq⟩ := List.getElem?_of_mem hid
        exact hall2 q id (by have := (List.getElem?_eq_some_iff.1 hq).1; omega) hq
      · exact hall i x' (by omega) hx' id hid
  · have hkn : ¬ k < n2 := by have := of_decide_eq_false h; omega
    have hkt : knownB H = true := by
      unfold knownB
      simp only [List.all_eq_true]
      intro c hc id hid
      rw [← hcs] at hc
      obtain ⟨x, hx, rfl⟩ := List.mem_map.1 hc
      obtain ⟨q, hq⟩ := List.getElem?_of_mem hx
      exact hall q x (by have := (List.getElem?_eq_some_iff.1 hq).1; omega) hq id hid
    rw [if_neg (by rw [hkt]; simp)]
    clear h
    repeat (first | refine byW ?_ | (refine byV ?_; intro w hw))
    refine W_cond rfl (fun h => ?_) (fun h => ?_)
    · rw [if_pos (by simpa using h)]
      repeat (first | refine byW ?_ | (refine byV ?_; intro w hw))
      exact ⟨_, rfl, rfl, hw.drop⟩
    rw [if_neg (by rw [bool_not h]; simp)]
    clear h
    repeat (first | refine byW ?_ | (refine byV ?_; intro w hw))
    refine W_cond rfl (fun h => ?_) (fun h => ?_)
    · rw [if_pos (by simpa using h)]
      repeat (first | refine byW ?_ | (refine byV ?_; intro w hw))
      exact ⟨_, rfl, rfl, hw.drop⟩
    rw [if_neg (by rw [bool_not h]; simp)]
    clear h
    repeat (first | refine byW ?_ | (refine byV ?_; intro w hw))
    refine W_cond rfl (fun h => ?_) (fun h => ?_)
    · rw [if_pos (by simpa using h)]
      repeat (first | refine byW ?_ | (refine byV ?_; intro w hw))
      exact ⟨_, rfl, rfl, hw.drop⟩
    rw [if_neg (by rw [bool_not h]; simp)]
    clear h
    repeat (first | refine byW ?_ | (refine byV ?_; intro w hw))
    exact ⟨_, rfl, rfl, hw.drop⟩⟩
end Go.Proofs.YteiijmclobggjaaGreat
end
/- Calls of methods behind interface values. -/
section
open Go Mk
namespace Go.Proofs.YteiijmclobggjaaGreat

def methF (P : Program) (t : TypeId) (name : String) : Option (Nat × Bool) :=
  match P.info? t with
  | some i => match i.methods.find? (·.name == name) with
    | some m => if m.path.isEmpty then m.func else none
    | none => none
  | none => none
/-- The method of a pointer type: f takes the pointer. -/
class MetP (P : Program) (t : TypeId) (name : String) (f : outParam Nat) : Prop where
  h : methF P t name = some (f, true)
  e : ∃ u, P.underlying t = some (.pointer u)
/-- The method of a pointer type: f takes what is pointed to, of type u. -/
class MetV (P : Program) (t : TypeId) (name : String) (f : outParam Nat) (u : outParam TypeId) : Prop where
  h : methF P t name = some (f, false)
  e : P.underlying t = some (.pointer u)

section
variable {P : Program} {t u : TypeId} {name : String} {f : Nat} {w : World}
theorem methF_spec {b : Bool} (h : methF P t name = some (f, b)) : ∃ i m, P.info? t = some i ∧ i.methods.find? (·.name == name) = some m ∧ m.path = #[] ∧ m.func = some (f, b) := by
  unfold methF at h
  cases hi : P.info? t with
  | none => simp [hi] at h
  | some i =>
    simp only [hi] at h
    cases hm : i.methods.find? (·.name == name) with
    | none => simp [hm] at h
    | some m =>
      simp only [hm] at h
      by_cases hp : m.path.isEmpty = true
      · rw [if_pos hp] at h
        exact ⟨i, m, rfl, hm, by simpa using hp, h⟩
      · rw [if_neg hp] at h; cases h
theorem depth_succ : ∃ k, P.types.size + Made.depth = k + 1 := ⟨P.types.size + Made.depth - 1, by unfold Made.depth; omega⟩
theorem run_metP [hm : MetP P t name f] {v : Value} : (method (P.types.size + Made.depth) t v name).run P w = .ok (f, v) w := by
  obtain ⟨u, hu⟩ := hm.e
  obtain ⟨i, m, hi, hf, hp, hg⟩ := methF_spec hm.h
  obtain ⟨k, hk⟩ := depth_succ (P := P)
  rw [hk]
  unfold method
  simp only [Sem.run_bind, typeInfo]
  simp [hi, hf, hp, hg, follow, receiverAt, run_underlying hu, Place.get]
theorem run_wrapNil {T U : TypeId} {a : Addr} {s m : String} : (Builtin.ssaWrapNilChk_ #[T] U #[.pointer (some a), strVal s, strVal m]).run P w = .ok (.pointer (some a)) w := rfl
theorem run_metV [hm : MetV P t name f u] {a : Addr} {x : Value} (hl : (loadVar u a).run P w = .ok x w) : (method (P.types.size + Made.depth) t (.pointer (some a)) name).run P w = .ok (f, x) w := by
  obtain ⟨i, m, hi, hf, hp, hg⟩ := methF_spec hm.h
  obtain ⟨k, hk⟩ := depth_succ (P := P)
  rw [hk]
  unfold method
  simp only [Sem.run_bind, typeInfo]
  simp [hi, hf, hp, hg, follow, receiverAt, run_underlying hm.e, Place.get, run_wrapNil, asAddr, hl]

variable {n : Nat} {opa : Array Oper} {QQ : Exit → Fr → World → Prop} {ρ : Fr} {rest : List Oper} {K : Value → World → Prop}
variable {d : Option Tmp} {ty : TypeId} {pos : String} {es : Array Edge} {args : List Operand} {tys : Array TypeId} {vs : List Value} {r : Operand} {g : Option (Nat × Bool)}
theorem s_inv {v : Value} {x : Value} [FnOk P f] (hr : ev ρ r = .iface t v) (hm : (method (P.types.size + Made.depth) t v name).run P w = .ok (f, x) w) (ha : args.toArray.map (ev ρ) = vs.toArray) (hc : Calls P f (x :: vs).toArray w fun e w' => ∃ v, e = .returned v ∧ K v w') :
    Step P ⟨d, .call { callee := .invoke r name, args := args.toArray, argTypes := tys }, ty, pos, es, g⟩ ρ w K := by
  have hx : (#[x] ++ vs.toArray : Array Value) = (x :: vs).toArray := by simp
  have hr : (execOp (ev ρ) ⟨d, .call { callee := .invoke r name, args := args.toArray, argTypes := tys }, ty, pos, es, g⟩).run P w = .ok (.enter f (x :: vs).toArray) w := by
    have hq : ∀ l : Array Value, (#[Value.iface t v] ++ l)[0]? = some (Value.iface t v) := fun l => by rw [Array.getElem?_append_left (by simp)]; rfl
    have hq2 : ∀ l : Array Value, (#[Value.iface t v] ++ l).extract 1 (#[Value.iface t v] ++ l).size = l := fun l => by
      apply Array.ext' ; simp
    simp only [execOp, resolve, ha, hr, Sem.run_bind, Sem.run_pure, Result.andThen_ok, invoke]
    simp only [hq, hq2, callMethod, Sem.run_bind, run_program, Result.andThen_ok, hm]
    simp only [hx]
    simp [run_callFunc]
  unfold Step
  rw [hr]
  exact hc
theorem lInv {v : Value} [MetP P t name f] [FnOk P f] (hc : Calls P f (v :: vs).toArray w fun e w' => ∃ v, e = .returned v ∧ L P n opa QQ rest (putO ρ d v) w') (hr : ev ρ r = .iface t v := by exact rfl) (ha : EvL ρ args vs := by exact byEV) (hd : okDst n d = true := by exact rfl) :
    L P n opa QQ (⟨d, .call { callee := .invoke r name, args := args.toArray, argTypes := tys }, ty, pos, es, none⟩ :: rest) ρ w := L_step rfl hd (s_inv hr run_metP ha.eqA hc)
theorem lInvV {a : Addr} {x : Value} [MetV P t name f u] [FnOk P f] (hl : (loadVar u a).run P w = .ok x w) (hc : Calls P f (x :: vs).toArray w fun e w' => ∃ v, e = .returned v ∧ L P n opa QQ rest (putO ρ d v) w') (hr : ev ρ r = .iface t (.pointer (some a)) := by exact rfl) (ha : EvL ρ args vs := by exact byEV) (hd : okDst n d = true := by exact rfl) :
    L P n opa QQ (⟨d, .call { callee := .invoke r name, args := args.toArray, argTypes := tys }, ty, pos, es, none⟩ :: rest) ρ w := L_step rfl hd (s_inv hr (run_metV hl) ha.eqA hc)
/-- A variable of one cell, read. -/
theorem loadVar_cell {b : Nat} {o : Nat} {x : Value} {Γ : Gho} {S : List Res} {i : Nat} {cs : Array Value} {E : TypeId} [hs : TS P u] (hw : Wd Γ S w) (hi : S[i]? = some (.blk b (.cells cs E))) (hc : cs[o]? = some x) : (loadVar u ⟨b, o, none⟩).run P w = .ok x w := by
  have := cell_of (hw.at_blk hi) hc
  simp [loadVar, go_sem, scal_isAgg hs.h, this]

/-- A type assertion to a struct type. -/
theorem y_assert {T U : TypeId} {v : Value} {fs : Array Field} {xx : Operand} (hu : P.underlying U = some (.struct fs)) (hx : ev ρ xx = .iface U v) : Mk.Yields P ⟨d, .typeAssert xx T U false, ty, pos, es, g⟩ ρ w v := by
  unfold Mk.Yields
  simp [execOp, hx, Instr.typeAssert, run_underlying hu, Sem.run_bind, Sem.run_pure, Result.andThen]
/-- The same in a region that is stepped in its order. -/
theorem lInvP {Γ : Gho} {S Y : List Res} {a : Addr} {x v : Value} [MetV P t name f u] [FnOk P f] (hp : PS P Γ S f (x :: vs) v) (hl : (loadVar u a).run P w = .ok x w) (h : ∀ w', Wd Γ (S ++ Y) w' → L P n opa QQ rest (putO ρ d v) w') (hw : Wd Γ (S ++ Y) w := by exact hw) (hd : okDst n d = true := by exact rfl) (hr : ev ρ r = .iface t (.pointer (some a)) := by exact rfl) (ha : EvL ρ args vs := by exact byEV) :
    L P n opa QQ (⟨d, .call { callee := .invoke r name, args := args.toArray, argTypes := tys }, ty, pos, es, none⟩ :: rest) ρ w :=
  L_step rfl hd (s_inv hr (run_metV hl) ha.eqA ((hp.h Y w hw).mono fun _ w' ⟨h1, h2⟩ => ⟨v, h1, h w' h2⟩))
theorem lInvPG {Γ : Gho} {S Y : List Res} {a : Addr} {x v : Value} {j dj : Nat} {want c : Bool} [MetV P t name f u] [FnOk P f] (hp : c = true → PS P Γ S f (x :: vs) v) (hl : (loadVar u a).run P w = .ok x w) (h : ∀ w', Wd Γ (S ++ Y) w' → L P n opa QQ rest (putO ρ d (gv c v)) w') (hw : Wd Γ (S ++ Y) w := by exact hw) (hj : (opa[j]?).bind (·.dst) = some dj := by exact rfl) (hjn : okDst n (some dj) = true := by exact rfl) (hc : GuardIs (ρ dj) want c := by exact byGC) (hd : okDst n d = true := by exact rfl) (hr : c = true → ev ρ r = .iface t (.pointer (some a)) := by intro hc; exact byOP) (ha : c = true → EvL ρ args vs := by intro hc; exact byEVG) :
    L P n opa QQ (⟨d, .call { callee := .invoke r name, args := args.toArray, argTypes := tys }, ty, pos, es, some (j, want)⟩ :: rest) ρ w :=
  lGC hj hjn hd hc (fun hct => lInvP (hp hct) hl (fun w' hw' => by have := h w' hw'; rwa [gvT hct rfl] at this) hw hd (hr hct) (ha hct)) (fun hcf => by have := h w hw; rwa [show gv c v = undef from by rw [hcf]; unfold gv; rfl] at this)
def concT (P : Program) (T : TypeId) : Bool := match P.underlying T with
  | some (.interface _) => false
  | some _ => true
  | none => false
/-- A type that is no interface. -/
class TCo (P : Program) (T : TypeId) : Prop where h : concT P T = true
theorem y_mkI {T : TypeId} {v : Value} {xx : Operand} [hc : TCo P T] (hx : ev ρ xx = v) : Mk.Yields P ⟨d, .makeInterface T xx, ty, pos, es, g⟩ ρ w (.iface T v) := by
  have h := hc.h
  unfold concT at h
  unfold Mk.Yields
  cases hu : P.underlying T with
  | none => simp [hu] at h
  | some t =>
    cases t <;> first | (simp [hu] at h; done) | simp [execOp, hx, Instr.makeInterface, run_underlying hu, Sem.run_bind, Sem.run_pure, Result.andThen]
end
end Go.Proofs.YteiijmclobggjaaGreat
end
/- Maps whose values are slices that are owned. -/
section
open Go
namespace Mk
attribute [local irreducible] Calls
section
variable {α β : Type} [DecidableEq α]
theorem aGet_cons' (a b : α) (v : β) (l : List (α × β)) : aGet ((a, v) :: l) b = if a = b then some v else aGet l b := by
  unfold aGet aIx
  by_cases h : a = b
  · subst h; simp [List.findIdx?_cons]
  · simp only [List.findIdx?_cons, decide_eq_true_eq, h, decide_false, Bool.false_eq_true, if_false]
    cases l.findIdx? (fun p => decide (p.1 = b)) <;> simp
theorem aSet_cons' (a b : α) (v u : β) (l : List (α × β)) : aSet ((a, v) :: l) b u = if a = b then (b, u) :: l else (a, v) :: aSet l b u := by
  unfold aSet aIx
  by_cases h : a = b
  · subst h; simp [List.findIdx?_cons]
  · simp only [List.findIdx?_cons, h, decide_false, Bool.false_eq_true, if_false]
    cases l.findIdx? (fun p => decide (p.1 = b)) <;> simp
theorem aGet_none' {l : List (α × β)} {a : α} : aGet l a = none ↔ a ∉ l.map (·.1) := by
  induction l with
  | nil => simp [aGet, aIx]
  | cons p l ih =>
    obtain ⟨x, v⟩ := p
    rw [aGet_cons']
    by_cases h : x = a
    · simp [h]
    · rw [if_neg h, ih]; simp [Ne.symm h]
theorem aSet_perm {l : List (α × β)} (h : (l.map (·.1)).Nodup) (a : α) (u : β) : (aSet l a u).Perm ((a, u) :: l.filter fun p => !decide (p.1 = a)) := by
  induction l with
  | nil => simp [aSet, aIx]
  | cons p l ih =>
    obtain ⟨x, v⟩ := p
    simp only [List.map_cons, List.nodup_cons] at h
    rw [aSet_cons']
    by_cases e : x = a
    · subst e
      rw [if_pos rfl]
      simp only [List.filter_cons, decide_true, Bool.not_true, Bool.false_eq_true, if_false]
      rw [List.filter_eq_self.2 (fun p hp => by simp; intro e; exact h.1 (e ▸ List.mem_map_of_mem hp))]
    · rw [if_neg e]
      simp only [List.filter_cons, decide_eq_false e, Bool.not_false, if_true]
      exact ((ih h.2).cons _).trans (.swap _ _ _)
theorem aGet_perm {l : List (α × β)} (h : (l.map (·.1)).Nodup) {a : α} {v : β} (hg : aGet l a = some v) : l.Perm ((a, v) :: l.filter fun p => !decide (p.1 = a)) := by
  induction l with
  | nil => simp [aGet, aIx] at hg
  | cons p l ih =>
    obtain ⟨x, u⟩ := p
    simp only [List.map_cons, List.nodup_cons] at h
    rw [aGet_cons'] at hg
    by_cases e : x = a
    · subst e
      rw [if_pos rfl] at hg; cases hg
      simp only [List.filter_cons, decide_true, Bool.not_true, Bool.false_eq_true, if_false]
      rw [List.filter_eq_self.2 (fun p hp => by simp; intro e; exact h.1 (e ▸ List.mem_map_of_mem hp))]
    · rw [if_neg e] at hg
      simp only [List.filter_cons, decide_eq_false e, Bool.not_false, if_true]
      exact ((ih h.2 hg).cons _).trans (.swap _ _ _)
theorem aGet_none_filter {l : List (α × β)} {a : α} (hg : aGet l a = none) : (l.filter fun p => !decide (p.1 = a)) = l :=
  List.filter_eq_self.2 fun p hp => by
    have := aGet_none'.1 hg
    simp; intro e; exact this (e ▸ List.mem_map_of_mem hp)
theorem aSet_keys {l : List (α × β)} (h : (l.map (·.1)).Nodup) (a : α) (u : β) : ((aSet l a u).map (·.1)).Nodup := by
  refine ((aSet_perm h a u).map _).nodup_iff.2 ?_
  simp only [List.map_cons, List.nodup_cons]
  refine ⟨fun hm => ?_, (List.filter_sublist.map _).nodup h⟩
  obtain ⟨p, hp, e⟩ := List.mem_map.1 hm
  have := (List.mem_filter.1 hp).2
  simp [e] at this
theorem aGet_aSet (l : List (α × β)) (a b : α) (u : β) : aGet (aSet l a u) b = if a = b then some u else aGet l b := by
  induction l with
  | nil => simp only [aSet, aIx, List.findIdx?_nil, List.nil_append]; rw [aGet_cons']
  | cons p l ih =>
    obtain ⟨x, v⟩ := p
    rw [aSet_cons']
    by_cases e : x = a
    · subst e; rw [if_pos rfl, aGet_cons', aGet_cons']
      by_cases e2 : x = b <;> simp [e2]
    · rw [if_neg e, aGet_cons', ih, aGet_cons']
      by_cases e2 : x = b
      · subst e2; rw [if_pos rfl, if_pos rfl, if_neg (Ne.symm e)]
      · rw [if_neg e2, if_neg e2]
end

section
variable {P : Program} {n : Nat} {ops : List Oper} {Γ : Gho} {K : List Res} {wr tc stab : List (List Nat)} {Q : Fr → World → Prop} {i : Nat} {rest : List Oper} {ρ : Fr} {M : Nat → Fr → List Res}
variable {ty T : TypeId} {pos : String} {es : Array Edge} {x y : Operand}
/-- The slice that an append has made is put into a map. -/
theorem mPutV {c b j dv : Nat} {l : List (Int × Value)} {a : Int} {k : IntKind} {X : Fr → List Res} {KT ET : TypeId} [hMp : TMap P T KT ET] [hK : TInt P KT k] (h : MSw (mV P n ops Γ K wr tc stab) Q (i + 1) rest ⟨ρ, setC M c fun g => (X g).set j (Res.mpT P KT (id : Value → Value) b (aSet l a (g dv)))⟩)
    (ht : tc.getD i [] = [c] := by exact rfl) (hM : M c = X := by exact rfl) (hj : ∀ g, (X g)[j]? = some (Res.mpT P KT (id : Value → Value) b l) := by intro g; exact byIX) (hw0 : wr.getD i [] = [c] := by exact rfl) (hx : ∀ g, ev (ovr stab.flatten g ρ) x = .map (some b) := by intro g; exact rfl) (hy : ∀ g, ev (ovr stab.flatten g ρ) y = .int k a := by intro g; exact rfl)
    (hs : (stab.getD c []).contains dv = true := by exact rfl) (hfv : stab.flatten.contains dv = true := by exact rfl) :
    MSw (mV P n ops Γ K wr tc stab) Q i (⟨none, .mapUpdate T x y (.tmp dv), ty, pos, es, none⟩ :: rest) ⟨ρ, M⟩ := by
  refine mM (v := undef) _ (fun Y w g hw => ?_) h hw0 rfl
  rw [cells1 ht, hM] at hw
  have hz : ev (ovr stab.flatten g ρ) (.tmp dv) = g dv := ovr_in (by simpa using hfv)
  have hg : ovr (stab.getD c []) g noFr dv = g dv := ovr_in (by simpa using hs)
  have hjl : j < (X (ovr (stab.getD c []) g noFr)).length := (List.getElem?_eq_some_iff.1 (hj _)).1
  refine s_mapUpdate (f := (id : Value → Value)) (v := g dv) hw (hx g) (hy g) hz (i := K.length + j) (by rw [List.getElem?_append_right (Nat.le_add_right _ _), Nat.add_sub_cancel_left, List.getElem?_append_left hjl]; exact hj _) fun w' hw' => ⟨?_, fun _ => rfl⟩
  rw [cells1 ht, setC_self]
  rw [List.set_append_right _ _ (Nat.le_add_right _ _), Nat.add_sub_cancel_left, List.set_append_left _ _ hjl] at hw'
  simp only [putO, hg]
  exact hw'
end

/-- All that is there stands for ever. -/
def hpG (Γ : Gho) (w : World) : Gho := ⟨hp w, Γ.os, Γ.tape, Γ.out, Γ.dr⟩
theorem hpG_le {Γ : Gho} {S : List Res} {w : World} (h : Wd Γ S w) : Γ.le (hpG Γ w) := ⟨h.imm, rfl, rfl, rfl, rfl⟩
theorem hpG_wd {Γ : Gho} {S : List Res} {w : World} (h : Wd Γ S w) : Wd (hpG Γ w) [] w := ⟨h.os, h.tape, h.out, h.dr, fun _ _ h => h, [], trivial, by simp, by simp⟩
theorem Holds.noimm {m m' h} : ∀ (R : List Res) (bss : List (List Nat)), (∀ r ∈ R, ∀ bs, r.holds m bs h → r.holds m' bs h) → Holds m R bss h → Holds m' R bss h
  | [], [], _, _ => trivial
  | r :: R, bs :: bss, hr, hh => ⟨hr r (by simp) bs hh.1, Holds.noimm R bss (fun r h => hr r (by simp [h])) hh.2⟩
  | [], _ :: _, _, hh => hh.elim
  | _ :: _, [], _, hh => hh.elim
/-- A call that was run with all that was there standing for ever keeps what is owned, and what it owns at its end comes to it. -/
theorem wd_keptG {Γ Γ' : Gho} {S R : List Res} {w w' : World} (h : Wd Γ S w) (hle : (hpG Γ w).le Γ') (hR : ∀ r ∈ R, ∀ bs, r.holds Γ'.imm bs (hp w') → r.holds Γ.imm bs (hp w')) (h' : Wd Γ' R w') : Wd Γ (R ++ S) w' := by
  obtain ⟨cs, k6, k7, k8⟩ := h'.own
  have him := h.imm
  obtain ⟨h1, h2, h3, h4, h5, dss, d6, d7, d8⟩ := h
  have hat : ∀ b ∈ dss.flatten, ∃ o, w.heap[b]? = some o := fun b hbm => ⟨_, Array.getElem?_eq_getElem (d8 b hbm).1⟩
  have hnew : ∀ b ∈ cs.flatten, w.heap[b]? = none := fun b hbm => by
    cases hq : w.heap[b]? with
    | none => rfl
    | some o => have := hle.imm b o hq; rw [(k8 b hbm).2] at this; cases this
  have hold : ∀ b ∈ dss.flatten, b ∉ cs.flatten := fun b hbm hbs => by
    obtain ⟨o, ho⟩ := hat b hbm
    rw [hnew b hbs] at ho; cases ho
  have hkeep : ∀ b ∈ dss.flatten, w'.heap[b]? = w.heap[b]? := fun b hbm => by
    obtain ⟨o, ho⟩ := hat b hbm
    rw [ho]; exact h'.imm b o (hle.imm b o ho)
  refine ⟨h'.os.trans hle.os, h'.tape.trans hle.tape, h'.out.trans hle.out, by have := h'.dr; rw [hle.dr] at this; exact this, fun b o hb => h'.imm b o (hle.imm b o (him b o hb)), cs ++ dss, Holds.append _ _ _ _ (Holds.noimm R cs hR k6) (Holds.loc (fun b o h => h) S dss hkeep d6), ?_, ?_⟩
  · rw [List.flatten_append, List.nodup_append]
    exact ⟨k7, d7, fun a ha b hb' e => hold b hb' (e ▸ ha)⟩
  · intro b hbm
    rw [List.flatten_append, List.mem_append] at hbm
    rcases hbm with hbm | hbm
    · refine ⟨(k8 b hbm).1, ?_⟩
      cases hq : Γ.imm b with
      | none => rfl
      | some o => have := him b o hq; rw [hnew b hbm] at this; cases this
    · obtain ⟨o, ho⟩ := hat b hbm
      have := hkeep b hbm
      rw [ho] at this
      exact ⟨(Array.getElem?_eq_some_iff.1 this).1, (d8 b hbm).2⟩
theorem own_noimm {m m' : Hp} {h : Hp} {v : Value} {e sz : Nat} {rows : List (List Value)} : ∀ r ∈ [Res.own v e sz rows], ∀ bs, r.holds m bs h → r.holds m' bs h := fun r hr bs hh => by
  simp only [List.mem_singleton] at hr
  subst hr
  unfold Res.own at hh ⊢
  exact hh
/-- Slices that are owned are given out. -/
theorem freeze_list {α : Type} {f : α → Value} {e sz : Nat} {g : α → List (List Value)} {S : List Res} {w : World} : ∀ (l : List α) {Γ : Gho}, Wd Γ (l.map (fun x => Res.own (f x) e sz (g x)) ++ S) w → ∃ Γ', Γ.le Γ' ∧ (∀ x ∈ l, RepS Γ' (f x) sz (g x)) ∧ Wd Γ' S w
  | [], Γ, hw => ⟨Γ, .refl _, by simp, hw⟩
  | x :: l, Γ, hw => by
    obtain ⟨Γ1, h1, h2, hw⟩ := Wd.freeze (S := l.map (fun x => Res.own (f x) e sz (g x)) ++ S) hw
    obtain ⟨Γ2, h3, h4, hw⟩ := freeze_list l hw
    refine ⟨Γ2, h1.trans h3, fun y hy => ?_, hw⟩
    rcases List.mem_cons.1 hy with rfl | hy
    · exact h2.mono h3
    · exact h4 y hy
theorem repS_nil {Γ : Gho} {a : Option Addr} {sz : Nat} : RepS Γ (.slice a 0 0) sz [] := by
  unfold RepS
  exact ⟨by simp, a, 0, 0, rfl, rfl, Nat.le_refl _, by simp, fun h => by simp at h⟩
end Mk
end
/- Some resources taken as one: which they are is known up to a condition. -/
section
open Go
namespace Mk
def Res.pk {α : Type} (φ : α → Prop) (R : α → List Res) : Res where
  holds m bs h := ∃ a bss, φ a ∧ Holds m (R a) bss h ∧ bs = bss.flatten
  loc m m' bs h h' hm hb := by
    rintro ⟨a, bss, h1, h2, rfl⟩
    exact ⟨a, bss, h1, Holds.loc hm (R a) bss hb h2, rfl⟩
theorem Wd.pack {Γ : Gho} {S : List Res} {w : World} {α : Type} {φ : α → Prop} {R : α → List Res} (a : α) (ha : φ a) (h : Wd Γ (R a ++ S) w) : Wd Γ (Res.pk φ R :: S) w := by
  obtain ⟨bss, h1, h2, h3⟩ := h.own
  obtain ⟨x, y, rfl, hx, hy⟩ := Holds.split _ _ _ h1
  refine ⟨h.os, h.tape, h.out, h.dr, h.imm, x.flatten :: y, ⟨⟨a, x, ha, hx, rfl⟩, hy⟩, by simpa using h2, fun b hb => h3 b (by simpa using hb)⟩
theorem Wd.unpack {Γ : Gho} {S : List Res} {w : World} {α : Type} {φ : α → Prop} {R : α → List Res} (h : Wd Γ (Res.pk φ R :: S) w) : ∃ a, φ a ∧ Wd Γ (R a ++ S) w := by
  obtain ⟨bss, h1, h2, h3⟩ := h.own
  cases bss with
  | nil => exact h1.elim
  | cons bs y =>
    obtain ⟨⟨a, x, ha, hx, rfl⟩, hy⟩ := h1
    exact ⟨a, ha, h.os, h.tape, h.out, h.dr, h.imm, x ++ y, Holds.append _ _ _ _ hx hy, by simpa using h2, fun b hb => h3 b (by simpa using hb)⟩
end Mk
end
/- A map that is not changed may be read from a later world. -/
section
open Go
namespace Mk
end Mk
end
/- The library's sort at whole numbers, carried into this world of words. -/
section
open Go
namespace Mk

section
variable {P : Program} {Γ : Gho} {S : List Res} {w : World} {E n c g i : Nat} {α : Type} [Inhabited α] {f : α → Value}
theorem flatK_one (d : Array α) : Go.Sort.flatK (fun x => [f x]) 1 d = d.map f := by
  refine Array.ext (by simp) fun i h1 h2 => ?_
  have h3 : i < d.size * 1 := by simpa using h1
  rw [← getElem!_pos _ i h1, Go.Sort.get_flatK _ _ _ _ h3]
  have h4 : i < d.size := by omega
  have e1 : i / 1 = i := Nat.div_one i
  have e2 : i % 1 = 0 := Nat.mod_one i
  rw [e1, e2, getElem!_pos d i h4]
  simp
theorem sortWorld_K1 (w : World) (g m : Nat) (dk : Array α) (os : Array Obj) : Go.Proofs.sortWorld f w g 0 m dk os = Go.Proofs.sortWorldK (fun x => [f x]) 1 w g 0 m dk os := by
  unfold Go.Proofs.sortWorld Go.Proofs.sortWorldK Go.Sort.putRowK Go.Sort.putRow
  congr 2
  funext cs
  refine Array.ext (by simp [Go.Sort.putCells]) fun i h1 h2 => ?_
  simp only [Go.Sort.putCells, Array.getElem_mapIdx, flatK_one, Array.size_map, Nat.zero_le, Nat.zero_add, true_and, Nat.sub_zero, id]
  by_cases h : i < dk.size
  · rw [if_pos h, if_pos h, getElem!_pos dk i h, getElem!_pos (dk.map f) i (by simpa using h)]; simp
  · rw [if_neg h, if_neg h]
theorem SortFunc_1 {ρ : Go.Shelf.Ren} (L : Go.Proofs.SlLaysF.n6 P ρ) (hf1 : ∀ x, (f x).oneCell' = true) (cf : α → α → Int) (fn : Nat) (cap : List Value) [FnOk P fn] (xs : List α) (v : Value) (hw : Wd Γ S w) (hi : S[i]? = some (.own v E 1 (xs.map fun x => [f x])))
    (hO : Go.Sort.SWO (Go.Proofs.ltOf cf)) (hT : ∀ x y, (Go.Proofs.ltOf cf) x y = false → (Go.Proofs.ltOf cf) y x = false → x = y) (hlen : xs.length < 4611686018427387904)
    (hcmp : ∀ (dk : List α) w', Wd Γ (S.set i (.own v E 1 (dk.map fun x => [f x]))) w' → ∀ x y, Calls P fn (#[f x, f y] ++ cap.toArray) w' fun e w'' => e = .returned (.int .i64 (cf x y)) ∧ ∃ S'', Wd (allG w') S'' w'') :
    Calls P (ρ.f 6) #[v, .func (.func fn) #[] cap.toArray] w fun e w' => e = .returned (.tuple #[]) ∧ Wd Γ (S.set i (.own v E 1 ((xs.mergeSort fun x y => !(Go.Proofs.ltOf cf) y x).map fun x => [f x]))) w' := by
  obtain ⟨a, n, c, rfl, e2, e3, e4, e5⟩ := own_block hw hi
  have hn : n = xs.length := by simpa using e2
  by_cases h0 : n = 0
  · have hx : xs = [] := List.eq_nil_of_length_eq_zero (by omega)
    subst h0
    refine (Go.Proofs.AnyF.slices_SortFunc_none (P := P) (ρ := ρ) { L with } a c _ w).mono ?_
    rintro e w' ⟨he, rfl⟩
    refine ⟨he, ?_⟩
    rw [hx] at hi
    rw [hx]
    have hset : S.set i (.own (.slice a 0 c) E 1 ((([] : List α).mergeSort fun x y => !(Go.Proofs.ltOf cf) y x).map fun x => [f x])) = S := by
      obtain ⟨hil, hie⟩ := List.getElem?_eq_some_iff.1 hi
      rw [List.mergeSort_nil, ← hie]; exact List.set_getElem_self hil
    rw [hset]; exact hw
  · have hc : 0 < c := by omega
    rcases e5 with e5 | ⟨g, cur, rfl, hg, hcur, hcs, htk⟩
    · omega
    obtain ⟨hH, hgl⟩ := own_holdsK (enc := fun x : α => [f x]) (k := 1) (fun _ => rfl) hw hi hc
    have hH1 : Go.Sort.Holds f w g 0 xs.toArray := fun j hj => by
      have := hH j (by simpa using hj)
      rw [flatK_one] at this
      have hj : j < xs.length := by simpa using hj
      simpa [hj] using this
    have := Go.Proofs.Any.slices_SortFunc_total L f hf1 cf hO fn cap.toArray g 0 c xs.toArray w (fun args w => run_callFunc args) (fun m os dk hdk x y => ?_) hH1 hgl (by simpa using hlen) hT
    · simp only [List.size_toArray] at this
      rw [← hn] at this
      refine this.mono ?_
      rintro e w' ⟨he, n', os, rfl⟩
      refine ⟨he, ?_⟩
      rw [sortWorld_K1]
      have := own_sortWorld (enc := fun x : α => [f x]) (k := 1) (fun _ => rfl) hw hi hc (xs.mergeSort fun x y => !(Go.Proofs.ltOf cf) y x).toArray (by simp) n' os
      exact this
    · have hw1 := own_sortWorld (enc := fun x : α => [f x]) (k := 1) (fun _ => rfl) hw hi hc dk (by simpa using hdk) m os
      rw [← sortWorld_K1] at hw1
      refine (hcmp dk.toList _ hw1 x y).mono ?_
      rintro e w'' ⟨he, S'', hw2⟩
      exact ⟨he, allG_grow hw2⟩
end
end Mk
end
