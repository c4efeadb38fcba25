/- Texts of this proof, one behind another. -/
import Derived.Test.YteiijmclobggjaaGreatM2
import Derived.Test.YteiijmclobggjaaGreatRows
import Derived.ProofKit
import Derived.OpenShut
import Derived.Deep.Slices
import Derived.ReadAgain
import Derived.Laws.MakeOwn
import Derived.Lib.UnsafeStr
import Derived.Lib.Builder
import Derived.Below
set_option linter.unusedVariables false
set_option linter.unusedSimpArgs false
/- Validate's checks: regions do not overlap (loops printed by a program). -/
section
open Go Mk
namespace Go.Proofs.YteiijmclobggjaaGreat
set_option maxHeartbeats 8000000
attribute [local irreducible] Calls
abbrev blkRows (l : List (Int × Int)) : List (List Value) := l.map fun p => [.int .u64 p.1, .int .u64 p.2]
def memBlk (m : MemT) : Int × Int := (m.Base, IntKind.u64.wrap (m.Base + m.Size))
def devBlk (m : DevT) : Int × Int := (m.Base, IntKind.u64.wrap (m.Base + m.Size))
def regs (H : HwT) : List (Int × Int) := H.Mems.map memBlk ++ H.Devs.map devBlk
def apartB (x y : Int × Int) : Bool := !(decide (x.1 < y.2) && decide (y.1 < x.2))
def DisjP (H : HwT) : Prop := ∀ (i k : Nat) (a b : Int × Int), k < i → (regs H)[i]? = some a → (regs H)[k]? = some b → apartB a b = true
noncomputable def disjB (H : HwT) : Bool := decP (DisjP H)
theorem rows_snocB {α : Type} {f : α → Int × Int} {l : List α} {L : List (Int × Int)} {k : Nat} {x : α} (hx : l[k]? = some x) : blkRows (L ++ (l.take k).map f) ++ [[.int .u64 (f x).1, .int .u64 (f x).2]] = blkRows (L ++ (l.take (k + 1)).map f) := by rw [take_succ_of hx]; simp [blkRows]
theorem rows_snocN {α : Type} {f : α → Int} {l : List α} {L : List Int} {k : Nat} {x : α} (hx : l[k]? = some x) : intRows (L ++ (l.take k).map f) ++ [[.int .i64 (f x)]] = intRows (L ++ (l.take (k + 1)).map f) := by rw [take_succ_of hx]; simp [intRows]
theorem disjoint_any {Γ : Gho} {S : List Res} {w : World} {u : Value} {H : HwT} [hh : HwR Γ u H] (hcnt : countsB H = true) (hw : Wd Γ S w) : Calls Tryz.prog 64 #[u] w fun e w' => e = .returned (.bool (disjB H)) ∧ Wd Γ S w' := by
  obtain ⟨-, l1, l2, l3, l4, l5⟩ := counts_le hcnt
  obtain ⟨a1, n1, c1, a2, n2, c2, a3, n3, c3, a4, n4, c4, a5, n5, c5, cs, rfl, hcs, hok, hsz, r1, r2, r3, r4, r5⟩ := hh.h
  obtain ⟨hn1, hm1, hx1⟩ := rep_facts r1
  obtain ⟨hn2, hm2, hx2⟩ := rep_facts r2
  obtain ⟨hn3, hm3, hx3⟩ := rep_facts r3
  obtain ⟨hn4, hm4, hx4⟩ := rep_facts r4
  obtain ⟨hn5, hm5, hx5⟩ := rep_facts r5
  simp only [List.length_map] at hn1 hn2 hn3 hn4 hn5
  refine calls_of_W Tryz.func64 rfl rfl ?_
  repeat (first | refine byW ?_ | (refine byV ?_; intro w hw))
  refine lBox ?_
  intro b1 w hw
  have hw : Wd Γ (.blk b1 (.cells #[.string H.Name, .slice a1 n1 c1, .slice a2 n2 c2, .slice a3 n3 c3, .slice a4 n4 c4, .slice a5 n5 c5] 28) :: S) w := hw
  obtain ⟨q, m, d, hq⟩ : ∃ (q : Option Addr) (m d : Nat), (.slice none 0 0 : Value) = .slice q m d := ⟨_, _, _, rfl⟩
  have hw : Wd Γ (.own (.slice none 0 0) 138 2 (blkRows []) :: .blk b1 (.cells #[.string H.Name, .slice a1 n1 c1, .slice a2 n2 c2, .slice a3 n3 c3, .slice a4 n4 c4, .slice a5 n5 c5] 28) :: S) w := Wd.addNil hw
  repeat (first | refine byW ?_ | (refine byV ?_; intro w hw))
  rw [hq] at *
  clear hq
  rw [show ([] : List (Int × Int)) = (([] : List (Int × Int)) ++ (H.Mems.take 0).map memBlk) from by simp] at hw
  repeat (first | refine byW ?_ | (refine byV ?_; intro w hw))
  refine W_loop (fun μ ρ w => ∃ (k : Nat) (q : Option Addr) (m d : Nat), μ + k = n4 ∧ Has ρ [(1, .pointer (some ⟨b1, 0, none⟩)), (3, .slice q m d), (11, .slice a4 n4 c4), (12, .int .i64 n4), (13, .int .i64 k)] ∧ Wd Γ (.own (.slice q m d) 138 2 (blkRows (([] : List (Int × Int)) ++ (H.Mems.take k).map memBlk)) :: .blk b1 (.cells #[.string H.Name, .slice a1 n1 c1, .slice a2 n2 c2, .slice a3 n3 c3, .slice a4 n4 c4, .slice a5 n5 c5] 28) :: S) w) n4 ⟨0, q, m, d, by omega, ⟨rfl, rfl, rfl, rfl, rfl, trivial⟩, hw⟩ ?_
  clear hw
  rintro μ ρ w ⟨k, q, m, d, hk, hρ, hw⟩
  have hm := own_len (i := 0) hw rfl
  simp only [blkRows, List.length_map, List.length_append, List.length_nil, List.length_take] at hm
  rw [hρ.eq]
  repeat (first | refine byW ?_ | (refine byV ?_; intro w hw))
  refine W_cond rfl (fun h => ?_) (fun h => ?_)
  · have hkn : k < n4 := by simpa using h
    obtain ⟨x, hx⟩ := get_lt (l := H.Mems) (k := k) (by omega)
    repeat (first | refine byW ?_ | (refine byV ?_; intro w hw))
    refine lAlloc ?_
    intro b9 w hw
    refine lStore ?_
    intro w hw
    have hw : Wd Γ (.blk b9 (.cells (enc x).toArray 67) :: .own (.slice q m d) 138 2 (blkRows (([] : List (Int × Int)) ++ (H.Mems.take k).map memBlk)) :: .blk b1 (.cells #[.string H.Name, .slice a1 n1 c1, .slice a2 n2 c2, .slice a3 n3 c3, .slice a4 n4 c4, .slice a5 n5 c5] 28) :: S) w := hw
    repeat (first | refine byW ?_ | (refine byV ?_; intro w hw))
    refine lBuildSlice [[.int .u64 (memBlk x).1, .int .u64 (memBlk x).2]] ?_
    intro ab w hw
    refine lApp (i := 2) (rows2 := [[.int .u64 (memBlk x).1, .int .u64 (memBlk x).2]]) ?_ (Wd.own_rd (i := 0) hw rfl)
    intro v' w hw
    obtain ⟨q', m', d', rfl, -, -, -⟩ := hw.own_shape (i := 2) rfl
    have hw : Wd Γ (.own (.slice q' m' d') 138 2 (blkRows (([] : List (Int × Int)) ++ (H.Mems.take (k + 1)).map memBlk)) :: .blk b1 (.cells #[.string H.Name, .slice a1 n1 c1, .slice a2 n2 c2, .slice a3 n3 c3, .slice a4 n4 c4, .slice a5 n5 c5] 28) :: S) w := by
      rw [← rows_snocB hx]; exact hw.drop.drop
    repeat (first | refine byW ?_ | (refine byV ?_; intro w hw))
    exact ⟨μ - 1, by omega, k + 1, _, _, _, by omega, ⟨rfl, rfl, rfl, rfl, rfl, trivial⟩, hw⟩
  have hkn : ¬ k < n4 := by simpa using h
  rw [List.take_of_length_le (l := H.Mems) (by omega)] at hw
  clear h hkn hρ hk hm
  rw [List.nil_append] at hw
  rw [show H.Mems.map memBlk = (H.Mems.map memBlk ++ (H.Devs.take 0).map devBlk) from by simp] at hw
  repeat (first | refine byW ?_ | (refine byV ?_; intro w hw))
  refine W_loop (fun μ ρ w => ∃ (k : Nat) (q : Option Addr) (m d : Nat), μ + k = n5 ∧ Has ρ [(1, .pointer (some ⟨b1, 0, none⟩)), (3, .slice q m d), (30, .slice a5 n5 c5), (31, .int .i64 n5), (32, .int .i64 k)] ∧ Wd Γ (.own (.slice q m d) 138 2 (blkRows (H.Mems.map memBlk ++ (H.Devs.take k).map devBlk)) :: .blk b1 (.cells #[.string H.Name, .slice a1 n1 c1, .slice a2 n2 c2, .slice a3 n3 c3, .slice a4 n4 c4, .slice a5 n5 c5] 28) :: S) w) n5 ⟨0, q, m, d, by omega, ⟨rfl, rfl, rfl, rfl, rfl, trivial⟩, hw⟩ ?_
  clear hw
  rintro μ ρ w ⟨k, q, m, d, hk, hρ, hw⟩
  have hm := own_len (i := 0) hw rfl
  simp only [blkRows, List.length_map, List.length_append, List.length_nil, List.length_take] at hm
  rw [hρ.eq]
  repeat (first | refine byW ?_ | (refine byV ?_; intro w hw))
  refine W_cond rfl (fun h => ?_) (fun h => ?_)
  · have hkn : k < n5 := by simpa using h
    obtain ⟨x, hx⟩ := get_lt (l := H.Devs) (k := k) (by omega)
    repeat (first | refine byW ?_ | (refine byV ?_; intro w hw))
    refine lAlloc ?_
    intro b9 w hw
    refine lStore ?_
    intro w hw
    have hw : Wd Γ (.blk b9 (.cells (enc x).toArray 69) :: .own (.slice q m d) 138 2 (blkRows (H.Mems.map memBlk ++ (H.Devs.take k).map devBlk)) :: .blk b1 (.cells #[.string H.Name, .slice a1 n1 c1, .slice a2 n2 c2, .slice a3 n3 c3, .slice a4 n4 c4, .slice a5 n5 c5] 28) :: S) w := hw
    repeat (first | refine byW ?_ | (refine byV ?_; intro w hw))
    refine lBuildSlice [[.int .u64 (devBlk x).1, .int .u64 (devBlk x).2]] ?_
    intro ab w hw
    refine lApp (i := 2) (rows2 := [[.int .u64 (devBlk x).1, .int .u64 (devBlk x).2]]) ?_ (Wd.own_rd (i := 0) hw rfl)
    intro v' w hw
    obtain ⟨q', m', d', rfl, -, -, -⟩ := hw.own_shape (i := 2) rfl
    have hw : Wd Γ (.own (.slice q' m' d') 138 2 (blkRows (H.Mems.map memBlk ++ (H.Devs.take (k + 1)).map devBlk)) :: .blk b1 (.cells #[.string H.Name, .slice a1 n1 c1, .slice a2 n2 c2, .slice a3 n3 c3, .slice a4 n4 c4, .slice a5 n5 c5] 28) :: S) w := by
      rw [← rows_snocB hx]; exact hw.drop.drop
    repeat (first | refine byW ?_ | (refine byV ?_; intro w hw))
    exact ⟨μ - 1, by omega, k + 1, _, _, _, by omega, ⟨rfl, rfl, rfl, rfl, rfl, trivial⟩, hw⟩
  have hkn : ¬ k < n5 := by simpa using h
  rw [List.take_of_length_le (l := H.Devs) (by omega)] at hw
  clear h hkn hρ hk hm
  have hw : Wd Γ (.own (.slice q m d) 138 2 (blkRows (regs H)) :: .blk b1 (.cells #[.string H.Name, .slice a1 n1 c1, .slice a2 n2 c2, .slice a3 n3 c3, .slice a4 n4 c4, .slice a5 n5 c5] 28) :: S) w := hw
  have hm := own_len (i := 0) hw rfl
  simp only [blkRows, List.length_map] at hm
  have hmb : m ≤ 96 := by rw [hm]; simp [regs]; omega
  repeat (first | refine byW ?_ | (refine byV ?_; intro w hw))
  refine W_loop (fun μ ρ w => ∃ (i : Nat), μ + i = m ∧ Has ρ [(3, .slice q m d), (49, .int .i64 m), (50, .int .i64 i)] ∧ (∀ (i' k : Nat) (a b : Int × Int), i' < i → k < i' → (regs H)[i']? = some a → (regs H)[k]? = some b → apartB a b = true) ∧ Wd Γ (.own (.slice q m d) 138 2 (blkRows (regs H)) :: .blk b1 (.cells #[.string H.Name, .slice a1 n1 c1, .slice a2 n2 c2, .slice a3 n3 c3, .slice a4 n4 c4, .slice a5 n5 c5] 28) :: S) w) m ⟨0, by omega, ⟨rfl, rfl, rfl, trivial⟩, fun i' k a b h => by omega, hw⟩ ?_
  clear hw
  rintro μ ρ w ⟨i, hi, hρ, hall, hw⟩
  rw [hρ.eq]
  repeat (first | refine byW ?_ | (refine byV ?_; intro w hw))
  refine W_cond rfl (fun h => ?_) (fun h => ?_)
  · have hin : i < m := by simpa using h
    obtain ⟨x, hx⟩ := get_lt (l := regs H) (k := i) (by omega)
    repeat (first | refine byW ?_ | (refine byV ?_; intro w hw))
    refine W_loop (fun μ2 ρ w => ∃ (k : Nat), μ2 + k = i ∧ Has ρ [(3, .slice q m d), (8, .int .i64 i), (9, .int .i64 k), (49, .int .i64 m), (50, .int .i64 i)] ∧ (∀ (j : Nat) (b : Int × Int), j < k → (regs H)[j]? = some b → apartB x b = true) ∧ Wd Γ (.own (.slice q m d) 138 2 (blkRows (regs H)) :: .blk b1 (.cells #[.string H.Name, .slice a1 n1 c1, .slice a2 n2 c2, .slice a3 n3 c3, .slice a4 n4 c4, .slice a5 n5 c5] 28) :: S) w) i ⟨0, by omega, ⟨rfl, rfl, rfl, rfl, rfl, trivial⟩, fun j b h => by omega, hw⟩ ?_
    clear hw
    rintro μ2 ρ w ⟨k, hk, hρ, hall2, hw⟩
    rw [hρ.eq]
    repeat (first | refine byW ?_ | (refine byV ?_; intro w hw))
    refine W_cond rfl (fun h2 => ?_) (fun h2 => ?_)
    · have hki : k < i := by simpa using h2
      obtain ⟨y, hy⟩ := get_lt (l := regs H) (k := k) (by omega)
      repeat (first | refine byW ?_ | (refine byV ?_; intro w hw))
      refine W_quiet (by kernel_rfl) (by kernel_rfl) hw ?_
      repeat (first | refine Q_nil ?_ | (apply Q_plain; first | (apply Q_go; first | refine qP ?_ | refine qPg ?_) | refine qY ?_) | (apply Q_guarded; first | (apply Q_go; first | refine qPG ?_ | refine qPgG ?_) | refine qG ?_))
      intro w hw
      refine W_cond rfl (fun h3 => ?_) (fun h3 => ?_)
      · have hp : apartB x y = false := by unfold apartB; exact congrArg (fun b => !b) h3
        repeat (first | refine byW ?_ | (refine byV ?_; intro w hw))
        refine ⟨_, rfl, ret_b rfl ?_, hw.drop.drop⟩
        refine (decP_f fun hP => ?_).symm
        rw [hP i k x y hki hx hy] at hp; cases hp
      · have hp : apartB x y = true := by unfold apartB; exact congrArg (fun b => !b) h3
        repeat (first | refine byW ?_ | (refine byV ?_; intro w hw))
        exact ⟨μ2 - 1, by omega, k + 1, by omega, ⟨rfl, rfl, rfl, rfl, rfl, trivial⟩, all_step hall2 hy hp, hw⟩
    · have hki : ¬ k < i := by simpa using h2
      repeat (first | refine byW ?_ | (refine byV ?_; intro w hw))
      refine ⟨μ - 1, by omega, i + 1, by omega, ⟨rfl, rfl, rfl, trivial⟩, fun i' j a b h1 h3 ha hb => ?_, hw⟩
      by_cases e : i' = i
      · subst e; rw [hx] at ha; cases ha
        exact hall2 j b (by omega) hb
      · exact hall i' j a b (by omega) h3 ha hb
  · have hin : ¬ i < m := by simpa using h
    repeat (first | refine byW ?_ | (refine byV ?_; intro w hw))
    refine ⟨_, rfl, ret_b rfl ?_, hw.drop.drop⟩
    exact (decP_t fun p q a b hpq ha hb => hall p q a b (by have := (List.getElem?_eq_some_iff.1 ha).1; omega) hpq ha hb).symm

/-! ### connected nodes -/
inductive Reach (ls : List LinkT) (s : Int) : Int → Prop
  | refl : Reach ls s s
  | ab {l : LinkT} : l ∈ ls → Reach ls s l.A → Reach ls s l.B
  | ba {l : LinkT} : l ∈ ls → Reach ls s l.B → Reach ls s l.A
def usedN (H : HwT) : List Int := (H.Cores.map (fun c => c.Node) ++ H.Mems.map (fun c => c.Node)) ++ H.Devs.map (fun c => c.Node)
def ConnP (H : HwT) : Prop := ∀ n ∈ usedN H, Reach H.Links ((usedN H).headD 0) n
noncomputable def connB (H : HwT) : Bool := decP (ConnP H)
theorem head_used {H : HwT} {s0 : Int} (h : (usedN H)[0]? = some s0) : (usedN H).headD 0 = s0 := by
  cases hu : usedN H with
  | nil => rw [hu] at h; cases h
  | cons a l => rw [hu] at h; simpa using h
theorem nodes_in {H : HwT} (h1 : coresRB H = true) (h2 : regionsRB H = true) : (∀ n ∈ usedN H, 0 ≤ n ∧ n < 64) ∧ ∀ l ∈ H.Links, 0 ≤ l.A ∧ l.A < 64 ∧ 0 ≤ l.B ∧ l.B < 64 := by
  unfold coresRB at h1
  unfold regionsRB at h2
  simp only [Bool.and_eq_true, List.all_eq_true] at h1 h2
  obtain ⟨hc, -, hl⟩ := h1
  obtain ⟨hm, hd⟩ := h2
  refine ⟨fun n hn => ?_, fun l hl' => ?_⟩
  · unfold usedN at hn
    simp only [List.mem_append, List.mem_map] at hn
    rcases hn with (⟨c, hcm, rfl⟩ | ⟨c, hcm, rfl⟩) | ⟨c, hcm, rfl⟩
    · have := hc c hcm; simp [coreRB, isNodeB] at this; omega
    · have := hm c hcm; simp [memRB, isNodeB] at this; omega
    · have := hd c hcm; simp [devRB, isNodeB] at this; omega
  · have := hl l hl'; simp [linkRB, isNodeB] at this; omega
structure Known (ls : List LinkT) (s : Int) (R : List Bool) : Prop where
  len : R.length = 64
  ok : ∀ (j : Nat), R[j]? = some true → ∃ n : Int, n.toNat = j ∧ 0 ≤ n ∧ Reach ls s n
theorem known_start {ls : List LinkT} {s : Int} (h : 0 ≤ s ∧ s < 64) : Known ls s ((List.replicate 64 false).set s.toNat true) := ⟨by simp, fun j hj => by
  rw [List.getElem?_set] at hj
  split at hj
  · rename_i e; exact ⟨s, e, h.1, .refl⟩
  · rw [List.getElem?_replicate] at hj
    split at hj <;> simp at hj⟩
theorem Known.set {ls : List LinkT} {s n : Int} {R : List Bool} (h : Known ls s R) (hn : 0 ≤ n) (hr : Reach ls s n) : Known ls s (R.set n.toNat true) := ⟨by simp [h.len], fun j hj => by
  rw [List.getElem?_set] at hj
  split at hj
  · rename_i e; exact ⟨n, e, hn, hr⟩
  · exact h.ok j hj⟩
theorem known_iff {ls : List LinkT} {s n : Int} {R : List Bool} (h : Known ls s R) (h0 : R[s.toNat]? = some true) (hs : 0 ≤ s) (hL : ∀ l ∈ ls, 0 ≤ l.A ∧ l.A < 64 ∧ 0 ≤ l.B ∧ l.B < 64) (hcl : ∀ l ∈ ls, R.getD l.A.toNat false = R.getD l.B.toNat false) (hn : 0 ≤ n ∧ n < 64) : R.getD n.toNat false = true ↔ Reach ls s n := by
  constructor
  · intro hg
    rw [List.getD_eq_getElem?_getD] at hg
    obtain ⟨b, hb⟩ := get_lt (l := R) (k := n.toNat) (by rw [h.len]; omega)
    rw [hb] at hg
    have hg : b = true := hg
    subst hg
    obtain ⟨x, hx, hx0, hr⟩ := h.ok _ hb
    have : x = n := by omega
    subst this; exact hr
  · intro hr
    clear hn
    induction hr with
    | refl => rw [List.getD_eq_getElem?_getD, h0]; rfl
    | ab hl _ ih => rw [← hcl _ hl]; exact ih
    | ba hl _ ih => rw [hcl _ hl]; exact ih
theorem set_self {R : List Bool} {k : Nat} {b : Bool} (h : k < R.length) : (R.set k b)[k]? = some b := by rw [List.getElem?_set_self h]
theorem getBool {R : List Bool} {k : Nat} {b : Bool} (h : R[k]? = some b) : ((R.map Value.bool).toArray)[0 + k * 1]? = some (.bool b) := by simp [h]
theorem putBool {R : List Bool} {k : Nat} {b : Bool} (h : k < R.length) : putCells (R.map Value.bool).toArray (0 + k * 1) [.bool b] = ((R.set k b).map Value.bool).toArray := by
  unfold putCells
  rw [Nat.zero_add, Nat.mul_one, List.set_eq_take_append_cons_drop, if_pos h]
  simp
theorem y_neqlb {P : Program} {d : Option Tmp} {T U ty : TypeId} {pos : String} {es : Array Edge} {g : Option (Nat × Bool)} {x y : Operand} {ρ : Fr} {w : World} {a b : Bool} (hT : P.underlying T = some .bool) (hx : ev ρ x = .bool a) (hy : ev ρ y = .bool b) : Mk.Yields P ⟨d, .binOp .neq T x y U, ty, pos, es, g⟩ ρ w (.bool (a != b)) := by
  unfold Mk.Yields; simp [execOp, go_sem, hx, hy, hT]; cases a <;> cases b <;> rfl
theorem count_set_le {R : List Bool} {k : Nat} : (R.set k true).count false ≤ R.count false := by
  induction R generalizing k with
  | nil => simp
  | cons b l ih =>
    cases k with
    | zero => cases b <;> simp
    | succ k => simp only [List.set_cons_succ, List.count_cons]; have := ih (k := k); omega
theorem count_set_lt {R : List Bool} {k : Nat} (h : R[k]? = some false) : (R.set k true).count false + 1 ≤ R.count false := by
  induction R generalizing k with
  | nil => simp at h
  | cons b l ih =>
    cases k with
    | zero => simp at h; subst h; simp
    | succ k => simp at h; simp only [List.set_cons_succ, List.count_cons]; have := ih (k := k) (by simpa using h); omega
theorem connected_any {Γ : Gho} {S : List Res} {w : World} {u : Value} {H : HwT} [hh : HwR Γ u H] (hcnt : countsB H = true) (hcr : coresRB H = true) (hrr : regionsRB H = true) (hw : Wd Γ S w) : Calls Tryz.prog 65 #[u] w fun e w' => e = .returned (.bool (connB H)) ∧ Wd Γ S w' := by
  obtain ⟨l0, l1, l2, l3, l4, l5⟩ := counts_le hcnt
  obtain ⟨hNd, hLk⟩ := nodes_in hcr hrr
  obtain ⟨a1, n1, c1, a2, n2, c2, a3, n3, c3, a4, n4, c4, a5, n5, c5, cs, rfl, hcs, hok, hsz, r1, r2, r3, r4, r5⟩ := hh.h
  obtain ⟨hn1, hm1, hx1⟩ := rep_facts r1
  obtain ⟨hn2, hm2, hx2⟩ := rep_facts r2
  obtain ⟨hn3, hm3, hx3⟩ := rep_facts r3
  obtain ⟨hn4, hm4, hx4⟩ := rep_facts r4
  obtain ⟨hn5, hm5, hx5⟩ := rep_facts r5
  simp only [List.length_map] at hn1 hn2 hn3 hn4 hn5
  refine calls_of_W Tryz.func65 rfl rfl ?_
  repeat (first | refine byW ?_ | (refine byV ?_; intro w hw))
  refine lBox ?_
  intro b1 w hw
  have hw : Wd Γ (.blk b1 (.cells #[.string H.Name, .slice a1 n1 c1, .slice a2 n2 c2, .slice a3 n3 c3, .slice a4 n4 c4, .slice a5 n5 c5] 28) :: S) w := hw
  obtain ⟨q, m, d, hq⟩ : ∃ (q : Option Addr) (m d : Nat), (.slice none 0 0 : Value) = .slice q m d := ⟨_, _, _, rfl⟩
  have hw : Wd Γ (.own (.slice none 0 0) 3 1 (intRows []) :: .blk b1 (.cells #[.string H.Name, .slice a1 n1 c1, .slice a2 n2 c2, .slice a3 n3 c3, .slice a4 n4 c4, .slice a5 n5 c5] 28) :: S) w := Wd.addNil hw
  repeat (first | refine byW ?_ | (refine byV ?_; intro w hw))
  rw [hq] at *
  clear hq
  rw [show ([] : List Int) = (([] : List Int) ++ (H.Cores.take 0).map (fun c => c.Node)) from by simp] at hw
  repeat (first | refine byW ?_ | (refine byV ?_; intro w hw))
  refine W_loop (fun μ ρ w => ∃ (k : Nat) (q : Option Addr) (m d : Nat), μ + k = n1 ∧ Has ρ [(1, .pointer (some ⟨b1, 0, none⟩)), (3, .slice q m d), (17, .slice a1 n1 c1), (18, .int .i64 n1), (19, .int .i64 k)] ∧ Wd Γ (.own (.slice q m d) 3 1 (intRows (([] : List Int) ++ (H.Cores.take k).map (fun c => c.Node))) :: .blk b1 (.cells #[.string H.Name, .slice a1 n1 c1, .slice a2 n2 c2, .slice a3 n3 c3, .slice a4 n4 c4, .slice a5 n5 c5] 28) :: S) w) n1 ⟨0, q, m, d, by omega, ⟨rfl, rfl, rfl, rfl, rfl, trivial⟩, hw⟩ ?_
  clear hw
  rintro μ ρ w ⟨k, q, m, d, hk, hρ, hw⟩
  have hm := own_len (i := 0) hw rfl
  simp only [intRows, List.length_map, List.length_append, List.length_nil, List.length_take] at hm
  rw [hρ.eq]
  repeat (first | refine byW ?_ | (refine byV ?_; intro w hw))
  refine W_cond rfl (fun h => ?_) (fun h => ?_)
  · have hkn : k < n1 := by simpa using h
    obtain ⟨x, hx⟩ := get_lt (l := H.Cores) (k := k) (by omega)
    repeat (first | refine byW ?_ | (refine byV ?_; intro w hw))
    refine lAlloc ?_
    intro b9 w hw
    refine lStore ?_
    intro w hw
    have hw : Wd Γ (.blk b9 (.cells (enc x).toArray 53) :: .own (.slice q m d) 3 1 (intRows (([] : List Int) ++ (H.Cores.take k).map (fun c => c.Node))) :: .blk b1 (.cells #[.string H.Name, .slice a1 n1 c1, .slice a2 n2 c2, .slice a3 n3 c3, .slice a4 n4 c4, .slice a5 n5 c5] 28) :: S) w := hw
    repeat (first | refine byW ?_ | (refine byV ?_; intro w hw))
    refine lBuildSlice [[.int .i64 x.Node]] ?_
    intro ab w hw
    refine lApp (i := 2) (rows2 := [[.int .i64 x.Node]]) ?_ (Wd.own_rd (i := 0) hw rfl)
    intro v' w hw
    obtain ⟨q', m', d', rfl, -, -, -⟩ := hw.own_shape (i := 2) rfl
    have hw : Wd Γ (.own (.slice q' m' d') 3 1 (intRows (([] : List Int) ++ (H.Cores.take (k + 1)).map (fun c => c.Node))) :: .blk b1 (.cells #[.string H.Name, .slice a1 n1 c1, .slice a2 n2 c2, .slice a3 n3 c3, .slice a4 n4 c4, .slice a5 n5 c5] 28) :: S) w := by
      rw [← rows_snocN (f := fun c : CoreT => c.Node) hx]; exact hw.drop.drop
    repeat (first | refine byW ?_ | (refine byV ?_; intro w hw))
    exact ⟨μ - 1, by omega, k + 1, _, _, _, by omega, ⟨rfl, rfl, rfl, rfl, rfl, trivial⟩, hw⟩
  have hkn : ¬ k < n1 := by simpa using h
  rw [List.take_of_length_le (l := H.Cores) (by omega)] at hw
  clear h hkn hρ hk hm
  rw [List.nil_append] at hw
  rw [show H.Cores.map (fun c => c.Node) = (H.Cores.map (fun c => c.Node) ++ (H.Mems.take 0).map (fun c => c.Node)) from by simp] at hw
  repeat (first | refine byW ?_ | (refine byV ?_; intro w hw))
  refine W_loop (fun μ ρ w => ∃ (k : Nat) (q : Option Addr) (m d : Nat), μ + k = n4 ∧ Has ρ [(1, .pointer (some ⟨b1, 0, none⟩)), (3, .slice q m d), (30, .slice a4 n4 c4), (31, .int .i64 n4), (32, .int .i64 k)] ∧ Wd Γ (.own (.slice q m d) 3 1 (intRows (H.Cores.map (fun c => c.Node) ++ (H.Mems.take k).map (fun c => c.Node))) :: .blk b1 (.cells #[.string H.Name, .slice a1 n1 c1, .slice a2 n2 c2, .slice a3 n3 c3, .slice a4 n4 c4, .slice a5 n5 c5] 28) :: S) w) n4 ⟨0, q, m, d, by omega, ⟨rfl, rfl, rfl, rfl, rfl, trivial⟩, hw⟩ ?_
  clear hw
  rintro μ ρ w ⟨k, q, m, d, hk, hρ, hw⟩
  have hm := own_len (i := 0) hw rfl
  simp only [intRows, List.length_map, List.length_append, List.length_nil, List.length_take] at hm
  rw [hρ.eq]
  repeat (first | refine byW ?_ | (refine byV ?_; intro w hw))
  refine W_cond rfl (fun h => ?_) (fun h => ?_)
  · have hkn : k < n4 := by simpa using h
    obtain ⟨x, hx⟩ := get_lt (l := H.Mems) (k := k) (by omega)
    repeat (first | refine byW ?_ | (refine byV ?_; intro w hw))
    refine lAlloc ?_
    intro b9 w hw
    refine lStore ?_
    intro w hw
    have hw : Wd Γ (.blk b9 (.cells (enc x).toArray 67) :: .own (.slice q m d) 3 1 (intRows (H.Cores.map (fun c => c.Node) ++ (H.Mems.take k).map (fun c => c.Node))) :: .blk b1 (.cells #[.string H.Name, .slice a1 n1 c1, .slice a2 n2 c2, .slice a3 n3 c3, .slice a4 n4 c4, .slice a5 n5 c5] 28) :: S) w := hw
    repeat (first | refine byW ?_ | (refine byV ?_; intro w hw))
    refine lBuildSlice [[.int .i64 x.Node]] ?_
    intro ab w hw
    refine lApp (i := 2) (rows2 := [[.int .i64 x.Node]]) ?_ (Wd.own_rd (i := 0) hw rfl)
    intro v' w hw
    obtain ⟨q', m', d', rfl, -, -, -⟩ := hw.own_shape (i := 2) rfl
    have hw : Wd Γ (.own (.slice q' m' d') 3 1 (intRows (H.Cores.map (fun c => c.Node) ++ (H.Mems.take (k + 1)).map (fun c => c.Node))) :: .blk b1 (.cells #[.string H.Name, .slice a1 n1 c1, .slice a2 n2 c2, .slice a3 n3 c3, .slice a4 n4 c4, .slice a5 n5 c5] 28) :: S) w := by
      rw [← rows_snocN (f := fun c : MemT => c.Node) hx]; exact hw.drop.drop
    repeat (first | refine byW ?_ | (refine byV ?_; intro w hw))
    exact ⟨μ - 1, by omega, k + 1, _, _, _, by omega, ⟨rfl, rfl, rfl, rfl, rfl, trivial⟩, hw⟩
  have hkn : ¬ k < n4 := by simpa using h
  rw [List.take_of_length_le (l := H.Mems) (by omega)] at hw
  clear h hkn hρ hk hm
  rw [show (H.Cores.map (fun c => c.Node) ++ H.Mems.map (fun c => c.Node)) = ((H.Cores.map (fun c => c.Node) ++ H.Mems.map (fun c => c.Node)) ++ (H.Devs.take 0).map (fun c => c.Node)) from by simp] at hw
  repeat (first | refine byW ?_ | (refine byV ?_; intro w hw))
  refine W_loop (fun μ ρ w => ∃ (k : Nat) (q : Option Addr) (m d : Nat), μ + k = n5 ∧ Has ρ [(1, .pointer (some ⟨b1, 0, none⟩)), (3, .slice q m d), (43, .slice a5 n5 c5), (44, .int .i64 n5), (45, .int .i64 k)] ∧ Wd Γ (.own (.slice q m d) 3 1 (intRows ((H.Cores.map (fun c => c.Node) ++ H.Mems.map (fun c => c.Node)) ++ (H.Devs.take k).map (fun c => c.Node))) :: .blk b1 (.cells #[.string H.Name, .slice a1 n1 c1, .slice a2 n2 c2, .slice a3 n3 c3, .slice a4 n4 c4, .slice a5 n5 c5] 28) :: S) w) n5 ⟨0, q, m, d, by omega, ⟨rfl, rfl, rfl, rfl, rfl, trivial⟩, hw⟩ ?_
  clear hw
  rintro μ ρ w ⟨k, q, m, d, hk, hρ, hw⟩
  have hm := own_len (i := 0) hw rfl
  simp only [intRows, List.length_map, List.length_append, List.length_nil, List.length_take] at hm
  rw [hρ.eq]
  repeat (first | refine byW ?_ | (refine byV ?_; intro w hw))
  refine W_cond rfl (fun h => ?_) (fun h => ?_)
  · have hkn : k < n5 := by simpa using h
    obtain ⟨x, hx⟩ := get_lt (l := H.Devs) (k := k) (by omega)
    repeat (first | refine byW ?_ | (refine byV ?_; intro w hw))
    refine lAlloc ?_
    intro b9 w hw
    refine lStore ?_
    intro w hw
    have hw : Wd Γ (.blk b9 (.cells (enc x).toArray 69) :: .own (.slice q m d) 3 1 (intRows ((H.Cores.map (fun c => c.Node) ++ H.Mems.map (fun c => c.Node)) ++ (H.Devs.take k).map (fun c => c.Node))) :: .blk b1 (.cells #[.string H.Name, .slice a1 n1 c1, .slice a2 n2 c2, .slice a3 n3 c3, .slice a4 n4 c4, .slice a5 n5 c5] 28) :: S) w := hw
    repeat (first | refine byW ?_ | (refine byV ?_; intro w hw))
    refine lBuildSlice [[.int .i64 x.Node]] ?_
    intro ab w hw
    refine lApp (i := 2) (rows2 := [[.int .i64 x.Node]]) ?_ (Wd.own_rd (i := 0) hw rfl)
    intro v' w hw
    obtain ⟨q', m', d', rfl, -, -, -⟩ := hw.own_shape (i := 2) rfl
    have hw : Wd Γ (.own (.slice q' m' d') 3 1 (intRows ((H.Cores.map (fun c => c.Node) ++ H.Mems.map (fun c => c.Node)) ++ (H.Devs.take (k + 1)).map (fun c => c.Node))) :: .blk b1 (.cells #[.string H.Name, .slice a1 n1 c1, .slice a2 n2 c2, .slice a3 n3 c3, .slice a4 n4 c4, .slice a5 n5 c5] 28) :: S) w := by
      rw [← rows_snocN (f := fun c : DevT => c.Node) hx]; exact hw.drop.drop
    repeat (first | refine byW ?_ | (refine byV ?_; intro w hw))
    exact ⟨μ - 1, by omega, k + 1, _, _, _, by omega, ⟨rfl, rfl, rfl, rfl, rfl, trivial⟩, hw⟩
  have hkn : ¬ k < n5 := by simpa using h
  rw [List.take_of_length_le (l := H.Devs) (by omega)] at hw
  clear h hkn hρ hk hm
  have hw : Wd Γ (.own (.slice q m d) 3 1 (intRows (usedN H)) :: .blk b1 (.cells #[.string H.Name, .slice a1 n1 c1, .slice a2 n2 c2, .slice a3 n3 c3, .slice a4 n4 c4, .slice a5 n5 c5] 28) :: S) w := hw
  have hm := own_len (i := 0) hw rfl
  simp only [intRows, List.length_map] at hm
  have hmb : 1 ≤ m ∧ m ≤ 128 := by rw [hm]; simp [usedN]; omega
  obtain ⟨s0, hs0⟩ := get_lt (l := usedN H) (k := 0) (by omega)
  obtain ⟨hs1, hs2⟩ := hNd s0 (List.mem_of_getElem? hs0)
  repeat (first | refine byW ?_ | (refine byV ?_; intro w hw))
  refine lAlloc ?_
  intro b10 w hw
  have hw : Wd Γ (.blk b10 (.cells ((List.replicate 64 false).map Value.bool).toArray 128) :: .own (.slice q m d) 3 1 (intRows (usedN H)) :: .blk b1 (.cells #[.string H.Name, .slice a1 n1 c1, .slice a2 n2 c2, .slice a3 n3 c3, .slice a4 n4 c4, .slice a5 n5 c5] 28) :: S) w := hw
  repeat (first | refine byW ?_ | (refine byV ?_; intro w hw))
  refine lStore (o := 0 + s0.toNat * 1) (ho := by simp; omega) ?_
  intro w hw
  have hw : Wd Γ (.blk b10 (.cells (putCells ((List.replicate 64 false).map Value.bool).toArray (0 + s0.toNat * 1) [.bool true]) 128) :: .own (.slice q m d) 3 1 (intRows (usedN H)) :: .blk b1 (.cells #[.string H.Name, .slice a1 n1 c1, .slice a2 n2 c2, .slice a3 n3 c3, .slice a4 n4 c4, .slice a5 n5 c5] 28) :: S) w := hw
  rw [putBool (by simp; omega)] at hw
  repeat (first | refine byW ?_ | (refine byV ?_; intro w hw))
  have hst : Known H.Links s0 ((List.replicate 64 false).set s0.toNat true) := known_start (by omega)
  refine W_loop (fun μ ρ w => ∃ (R : List Bool) (ch : Bool), 2 * R.count false + (if ch = true then 1 else 0) ≤ μ ∧ Known H.Links s0 R ∧ R[s0.toNat]? = some true ∧ (ch = false → ∀ l ∈ H.Links, R.getD l.A.toNat false = R.getD l.B.toNat false) ∧ Has ρ [(1, .pointer (some ⟨b1, 0, none⟩)), (3, .slice q m d), (10, .pointer (some ⟨b10, 0, none⟩)), (11, .bool ch)] ∧ Wd Γ (.blk b10 (.cells ((R).map Value.bool).toArray 128) :: .own (.slice q m d) 3 1 (intRows (usedN H)) :: .blk b1 (.cells #[.string H.Name, .slice a1 n1 c1, .slice a2 n2 c2, .slice a3 n3 c3, .slice a4 n4 c4, .slice a5 n5 c5] 28) :: S) w) 200 ⟨_, true, by have := List.count_le_length (a := false) (l := (List.replicate 64 false).set s0.toNat true); simp at this ⊢; omega, hst, set_self (by simp; omega), (fun h => by cases h), ⟨rfl, rfl, rfl, rfl, trivial⟩, hw⟩ ?_
  clear hw
  rintro μ ρ w ⟨R, ch, hμ, hkn, hR0, hcl, hρ, hw⟩
  have hRl := hkn.len
  rw [hρ.eq]
  repeat (first | refine byW ?_ | (refine byV ?_; intro w hw))
  refine W_cond rfl (fun h => ?_) (fun h => ?_)
  · subst h
    clear hcl
    repeat (first | refine byW ?_ | (refine byV ?_; intro w hw))
    refine W_loop (fun μ2 ρ w => ∃ (k : Nat) (R2 : List Bool) (ch : Bool), μ2 + k = n3 ∧ Known H.Links s0 R2 ∧ R2[s0.toNat]? = some true ∧ 2 * R2.count false + (if ch = true then 1 else 0) + 1 ≤ 2 * R.count false + 1 ∧ (ch = false → ∀ (i : Nat) (l : LinkT), i < k → H.Links[i]? = some l → R2.getD l.A.toNat false = R2.getD l.B.toNat false) ∧ Has ρ [(1, .pointer (some ⟨b1, 0, none⟩)), (3, .slice q m d), (10, .pointer (some ⟨b10, 0, none⟩)), (11, .bool ch), (61, .slice a3 n3 c3), (62, .int .i64 n3), (63, .int .i64 k)] ∧ Wd Γ (.blk b10 (.cells ((R2).map Value.bool).toArray 128) :: .own (.slice q m d) 3 1 (intRows (usedN H)) :: .blk b1 (.cells #[.string H.Name, .slice a1 n1 c1, .slice a2 n2 c2, .slice a3 n3 c3, .slice a4 n4 c4, .slice a5 n5 c5] 28) :: S) w) n3 ⟨0, R, false, by omega, hkn, hR0, by simp, fun _ i l h => by omega, ⟨rfl, rfl, rfl, rfl, rfl, rfl, rfl, trivial⟩, hw⟩ ?_
    clear hw hkn hR0 hRl
    rintro μ2 ρ w ⟨k, R2, ch, hk, hkn, hR0, hcnt2, hcl, hρ, hw⟩
    have hRl := hkn.len
    rw [hρ.eq]
    repeat (first | refine byW ?_ | (refine byV ?_; intro w hw))
    refine W_cond rfl (fun h2 => ?_) (fun h2 => ?_)
    · have hkn3 : k < n3 := by simpa using h2
      obtain ⟨x, hx⟩ := get_lt (l := H.Links) (k := k) (by omega)
      obtain ⟨hA0, hA1, hB0, hB1⟩ := hLk x (List.mem_of_getElem? hx)
      obtain ⟨ba, hba⟩ := get_lt (l := R2) (k := x.A.toNat) (by omega)
      obtain ⟨bb, hbb⟩ := get_lt (l := R2) (k := x.B.toNat) (by omega)
      repeat (first | refine byW ?_ | (refine byV ?_; intro w hw))
      refine lAlloc ?_
      intro b13 w hw
      refine lStore ?_
      intro w hw
      have hw : Wd Γ (.blk b13 (.cells (enc x).toArray 56) :: .blk b10 (.cells ((R2).map Value.bool).toArray 128) :: .own (.slice q m d) 3 1 (intRows (usedN H)) :: .blk b1 (.cells #[.string H.Name, .slice a1 n1 c1, .slice a2 n2 c2, .slice a3 n3 c3, .slice a4 n4 c4, .slice a5 n5 c5] 28) :: S) w := hw
      repeat (first | refine byW ?_ | (refine byV ?_; intro w hw))
      refine W_quiet (by kernel_rfl) (by kernel_rfl) hw ?_
      repeat (first | refine Q_nil ?_ | (apply Q_plain; first | (apply Q_go; first | refine qP ?_ | refine qPg ?_) | refine qY ?_) | (apply Q_guarded; first | (apply Q_go; first | refine qPG ?_ | refine qPgG ?_) | refine qG ?_))
      refine qY (v := .bool ba) ?_ (hy := fun w hw => y_l1b (i := 1) hw rfl rfl (getBool hba))
      repeat (first | refine Q_nil ?_ | (apply Q_plain; first | (apply Q_go; first | refine qP ?_ | refine qPg ?_) | refine qY ?_) | (apply Q_guarded; first | (apply Q_go; first | refine qPG ?_ | refine qPgG ?_) | refine qG ?_))
      refine qY (v := .bool bb) ?_ (hy := fun w hw => y_l1b (i := 1) hw rfl rfl (getBool hbb))
      repeat (first | refine Q_nil ?_ | (apply Q_plain; first | (apply Q_go; first | refine qP ?_ | refine qPg ?_) | refine qY ?_) | (apply Q_guarded; first | (apply Q_go; first | refine qPG ?_ | refine qPgG ?_) | refine qG ?_))
      refine qY (v := .bool (ba != bb)) ?_ (hy := fun w hw => y_neqlb Tryz.underlying4 rfl rfl)
      repeat (first | refine Q_nil ?_ | (apply Q_plain; first | (apply Q_go; first | refine qP ?_ | refine qPg ?_) | refine qY ?_) | (apply Q_guarded; first | (apply Q_go; first | refine qPG ?_ | refine qPgG ?_) | refine qG ?_))
      clear hw
      intro w hw
      refine W_cond rfl (fun h3 => ?_) (fun h3 => ?_)
      · repeat (first | refine byW ?_ | (refine byV ?_; intro w hw))
        refine W_mix1 [.blk b13 _] (.blk b10 _ :: .own _ _ _ _ :: .blk b1 _ :: S) [[],[],[],[],[],[0],[],[0]] [[],[],[],[],[],[0],[],[0]] hw ?_
        repeat (first | refine mY ?_ | refine mP ?_ | refine mPg ?_)
        refine mStoreC (o := 0 + x.A.toNat * 1) (ho := by simp; omega) ?_
        repeat (first | refine mY ?_ | refine mP ?_ | refine mPg ?_)
        refine mStoreC (o := 0 + x.B.toNat * 1) (ho := by
          show _ ≤ (putCells (R2.map Value.bool).toArray (0 + x.A.toNat * 1) [.bool true]).size
          rw [putBool (by omega)]; simp; omega) ?_
        refine mEnd0 ?_
        clear hw
        intro w hw
        have hw : Wd Γ ([.blk b13 (.cells (enc x).toArray 56)] ++ ((.blk b10 (.cells (putCells (putCells (R2.map Value.bool).toArray (0 + x.A.toNat * 1) [.bool true]) (0 + x.B.toNat * 1) [.bool true]) 128) :: .own (.slice q m d) 3 1 (intRows (usedN H)) :: .blk b1 (.cells #[.string H.Name, .slice a1 n1 c1, .slice a2 n2 c2, .slice a3 n3 c3, .slice a4 n4 c4, .slice a5 n5 c5] 28) :: S) ++ [])) w := hw
        rw [putBool (by omega), putBool (by simp; omega), List.append_nil] at hw
        have hw : Wd Γ (.blk b10 (.cells (((R2.set x.A.toNat true).set x.B.toNat true).map Value.bool).toArray 128) :: .own (.slice q m d) 3 1 (intRows (usedN H)) :: .blk b1 (.cells #[.string H.Name, .slice a1 n1 c1, .slice a2 n2 c2, .slice a3 n3 c3, .slice a4 n4 c4, .slice a5 n5 c5] 28) :: S) w := hw.drop
        repeat (first | refine byW ?_ | (refine byV ?_; intro w hw))
        have hne : ba ≠ bb := by cases ba <;> cases bb <;> simp_all
        have hRA : Reach H.Links s0 x.A ∧ Reach H.Links s0 x.B := by
          have hxm := List.mem_of_getElem? hx
          cases ba with
          | true =>
            obtain ⟨n, hn, hn0, hr⟩ := hkn.ok _ hba
            have : n = x.A := by omega
            subst this
            exact ⟨hr, .ab hxm hr⟩
          | false =>
            have : bb = true := by cases bb <;> simp_all
            subst this
            obtain ⟨n, hn, hn0, hr⟩ := hkn.ok _ hbb
            have : n = x.B := by omega
            subst this
            exact ⟨.ba hxm hr, hr⟩
        have hc2 : 2 * ((R2.set x.A.toNat true).set x.B.toNat true).count false + 2 ≤ 2 * R2.count false := by
          cases ba with
          | false =>
            have h1 := count_set_lt hba
            have h2 := count_set_le (R := R2.set x.A.toNat true) (k := x.B.toNat)
            omega
          | true =>
            have h5 : bb = false := by cases bb <;> simp_all
            subst h5
            have h6 : x.A.toNat ≠ x.B.toNat := fun e => by rw [e, hbb] at hba; cases hba
            have h1 := count_set_lt (R := R2.set x.A.toNat true) (k := x.B.toNat) (by rw [List.getElem?_set_ne h6]; exact hbb)
            have h2 := count_set_le (R := R2) (k := x.A.toNat)
            omega
        refine ⟨μ2 - 1, by omega, k + 1, _, true, by omega, (hkn.set hA0 hRA.1).set hB0 hRA.2, ?_, by simp; omega, (fun h => by cases h), ⟨rfl, rfl, rfl, rfl, rfl, rfl, rfl, trivial⟩, hw⟩
        rw [List.getElem?_set, List.getElem?_set]
        split
        · simp; omega
        · split
          · simp; omega
          · exact hR0
      · have hab : ba = bb := by cases ba <;> cases bb <;> simp_all
        repeat (first | refine byW ?_ | (refine byV ?_; intro w hw))
        refine ⟨μ2 - 1, by omega, k + 1, R2, ch, by omega, hkn, hR0, hcnt2, fun hc i l hi hl => ?_, ⟨rfl, rfl, rfl, rfl, rfl, rfl, rfl, trivial⟩, hw.drop⟩
        by_cases e : i = k
        · subst e; rw [hx] at hl; cases hl
          rw [List.getD_eq_getElem?_getD, List.getD_eq_getElem?_getD, hba, hbb, hab]
        · exact hcl hc i l (by omega) hl
    · have hkn3 : ¬ k < n3 := by simpa using h2
      repeat (first | refine byW ?_ | (refine byV ?_; intro w hw))
      refine ⟨μ - 1, by rw [if_pos rfl] at hμ; omega, R2, ch, by rw [if_pos rfl] at hμ; omega, hkn, hR0, fun hc l hl => ?_, ⟨rfl, rfl, rfl, rfl, trivial⟩, hw⟩
      obtain ⟨i, hi, he⟩ := List.getElem_of_mem hl
      exact hcl hc i l (by omega) (by rw [List.getElem?_eq_getElem hi, he])
  · subst h
    have hcl := hcl rfl
    clear hμ
    have hiff : ∀ n ∈ usedN H, (R.getD n.toNat false = true ↔ Reach H.Links s0 n) := fun n hn => known_iff hkn hR0 hs1 hLk hcl (hNd n hn)
    repeat (first | refine byW ?_ | (refine byV ?_; intro w hw))
    refine W_loop (fun μ ρ w => ∃ (k : Nat), μ + k = m ∧ (∀ (i : Nat) (n : Int), i < k → (usedN H)[i]? = some n → R.getD n.toNat false = true) ∧ Has ρ [(10, .pointer (some ⟨b10, 0, none⟩)), (83, .slice q m d), (84, .int .i64 m), (85, .int .i64 k)] ∧ Wd Γ (.blk b10 (.cells ((R).map Value.bool).toArray 128) :: .own (.slice q m d) 3 1 (intRows (usedN H)) :: .blk b1 (.cells #[.string H.Name, .slice a1 n1 c1, .slice a2 n2 c2, .slice a3 n3 c3, .slice a4 n4 c4, .slice a5 n5 c5] 28) :: S) w) m ⟨0, by omega, fun i n h => by omega, ⟨rfl, rfl, rfl, rfl, trivial⟩, hw⟩ ?_
    clear hw
    rintro μ ρ w ⟨k, hk, hall, hρ, hw⟩
    rw [hρ.eq]
    repeat (first | refine byW ?_ | (refine byV ?_; intro w hw))
    refine W_cond rfl (fun h2 => ?_) (fun h2 => ?_)
    · have hkm : k < m := by simpa using h2
      obtain ⟨x, hx⟩ := get_lt (l := usedN H) (k := k) (by omega)
      obtain ⟨hx0, hx1⟩ := hNd x (List.mem_of_getElem? hx)
      obtain ⟨bx, hbx⟩ := get_lt (l := R) (k := x.toNat) (by omega)
      have hg : R.getD x.toNat false = bx := by rw [List.getD_eq_getElem?_getD, hbx]; rfl
      repeat (first | refine byW ?_ | (refine byV ?_; intro w hw))
      refine lY (v := .bool bx) ?_ (hy := y_l1b (i := 0) hw rfl rfl (getBool hbx))
      repeat (first | refine byW ?_ | (refine byV ?_; intro w hw))
      refine W_cond rfl (fun h3 => ?_) (fun h3 => ?_)
      · have h3 : bx = false := by simpa using h3
        repeat (first | refine byW ?_ | (refine byV ?_; intro w hw))
        refine ⟨_, rfl, ret_b rfl ?_, hw.drop.drop.drop⟩
        refine (decP_f fun hP => ?_).symm
        have h4 := (hiff x (List.mem_of_getElem? hx)).2 (by rw [← head_used hs0]; exact hP x (List.mem_of_getElem? hx))
        rw [hg, h3] at h4; cases h4
      · have h3 : bx = true := by simpa using h3
        repeat (first | refine byW ?_ | (refine byV ?_; intro w hw))
        exact ⟨μ - 1, by omega, k + 1, by omega, all_step (p := fun n : Int => R.getD n.toNat false) hall hx (hg.trans h3), ⟨rfl, rfl, rfl, rfl, trivial⟩, hw⟩
    · have hkm : ¬ k < m := by simpa using h2
      repeat (first | refine byW ?_ | (refine byV ?_; intro w hw))
      refine ⟨_, rfl, ret_b rfl ?_, hw.drop.drop.drop⟩
      refine (decP_t fun n hn => ?_).symm
      rw [head_used hs0]
      obtain ⟨i, hi, he⟩ := List.getElem_of_mem hn
      exact (hiff n hn).1 (hall i n (by omega) (by rw [List.getElem?_eq_getElem hi, he]))
end Go.Proofs.YteiijmclobggjaaGreat
end
/- Validate: the first error of a description. -/
section
open Go Mk
namespace Go.Proofs.YteiijmclobggjaaGreat
set_option maxHeartbeats 8000000
attribute [local irreducible] Calls
noncomputable def validS (H : HwT) : Int :=
  if namesB H = false then 63 else if countsB H = false then 15 else if (coresRB H && regionsRB H) = false then 6 else if alignRB H = false then 59
  else if uniqueB H = false then 56 else if knownB H = false then 57 else if hierB H = false then 73 else if disjB H = false then 7 else if connB H = false then 60 else 0
instance pg_Validate {Γ : Gho} {u : Value} {H : HwT} [hh : HwR Γ u H] : PG Tryz.prog Γ 28 [u] (.int .i64 (validS H)) := ⟨fun S w hw => by
  obtain ⟨a1, n1, c1, a2, n2, c2, a3, n3, c3, a4, n4, c4, a5, n5, c5, cs, hu, -⟩ := hh.h
  subst hu
  refine calls_of_W Tryz.func28 rfl rfl ?_
  repeat (first | refine byW ?_ | (refine byV ?_; intro w hw))
  refine lBox ?_
  intro b1 w hw
  have hw : Wd Γ (.blk b1 (hwC H a1 n1 c1 a2 n2 c2 a3 n3 c3 a4 n4 c4 a5 n5 c5) :: S) w := hw
  unfold validS
  repeat (first | refine byW ?_ | (refine byV ?_; intro w hw))
  refine W_cond rfl (fun h => ?_) (fun h => ?_)
  · rw [if_pos (by simpa using h)]
    repeat (first | refine byW ?_ | (refine byV ?_; intro w hw))
    exact ⟨_, rfl, rfl, hw.drop⟩
  rw [if_neg (by simpa using h)]
  clear h
  repeat (first | refine byW ?_ | (refine byV ?_; intro w hw))
  refine W_cond rfl (fun h => ?_) (fun h => ?_)
  · rw [if_pos (by simpa using h)]
    repeat (first | refine byW ?_ | (refine byV ?_; intro w hw))
    exact ⟨_, rfl, rfl, hw.drop⟩
  have hcnt : countsB H = true := by simpa using h
  rw [if_neg (by simpa using h)]
  clear h
  repeat (first | refine byW ?_ | (refine byV ?_; intro w hw))
  refine W_cond rfl (fun h => ?_) (fun h => ?_)
  · have h : (!coresRB H || !regionsRB H) = true := h
    rw [if_pos (by revert h; cases coresRB H <;> cases regionsRB H <;> simp)]
    repeat (first | refine byW ?_ | (refine byV ?_; intro w hw))
    exact ⟨_, rfl, rfl, hw.drop⟩
  have h : (!coresRB H || !regionsRB H) = false := h
  rw [← Bool.not_and] at h
  have h : (coresRB H && regionsRB H) = true := by simpa using h
  rw [if_neg (by rw [h]; simp)]
  rw [Bool.and_eq_true] at h
  obtain ⟨hcr, hrr⟩ := h
  repeat (first | refine byW ?_ | (refine byV ?_; intro w hw))
  refine W_cond rfl (fun h => ?_) (fun h => ?_)
  · rw [if_pos (by simpa using h)]
    repeat (first | refine byW ?_ | (refine byV ?_; intro w hw))
    exact ⟨_, rfl, rfl, hw.drop⟩
  rw [if_neg (by simpa using h)]
  clear h
  repeat (first | refine byW ?_ | (refine byV ?_; intro w hw))
  refine lCall ?_
  refine (unique_any hcnt hw).mono ?_
  rintro r w ⟨rfl, hw⟩
  refine ⟨_, rfl, ?_⟩
  repeat (first | refine byW ?_ | (refine byV ?_; intro w hw))
  refine W_cond rfl (fun h => ?_) (fun h => ?_)
  · rw [if_pos (by simpa using h)]
    repeat (first | refine byW ?_ | (refine byV ?_; intro w hw))
    exact ⟨_, rfl, rfl, hw.drop⟩
  rw [if_neg (by simpa using h)]
  clear h
  repeat (first | refine byW ?_ | (refine byV ?_; intro w hw))
  refine W_cond rfl (fun h => ?_) (fun h => ?_)
  · rw [if_pos (by simpa using h)]
    repeat (first | refine byW ?_ | (refine byV ?_; intro w hw))
    exact ⟨_, rfl, rfl, hw.drop⟩
  rw [if_neg (by simpa using h)]
  clear h
  repeat (first | refine byW ?_ | (refine byV ?_; intro w hw))
  refine W_cond rfl (fun h => ?_) (fun h => ?_)
  · rw [if_pos (by simpa using h)]
    repeat (first | refine byW ?_ | (refine byV ?_; intro w hw))
    exact ⟨_, rfl, rfl, hw.drop⟩
  rw [if_neg (by simpa using h)]
  clear h
  repeat (first | refine byW ?_ | (refine byV ?_; intro w hw))
  refine lCall ?_
  refine (disjoint_any hcnt hw).mono ?_
  rintro r w ⟨rfl, hw⟩
  refine ⟨_, rfl, ?_⟩
  repeat (first | refine byW ?_ | (refine byV ?_; intro w hw))
  refine W_cond rfl (fun h => ?_) (fun h => ?_)
  · rw [if_pos (by simpa using h)]
    repeat (first | refine byW ?_ | (refine byV ?_; intro w hw))
    exact ⟨_, rfl, rfl, hw.drop⟩
  rw [if_neg (by simpa using h)]
  clear h
  repeat (first | refine byW ?_ | (refine byV ?_; intro w hw))
  refine lCall ?_
  refine (connected_any hcnt hcr hrr hw).mono ?_
  rintro r w ⟨rfl, hw⟩
  refine ⟨_, rfl, ?_⟩
  repeat (first | refine byW ?_ | (refine byV ?_; intro w hw))
  refine W_cond rfl (fun h => ?_) (fun h => ?_)
  · rw [if_pos (by simpa using h)]
    repeat (first | refine byW ?_ | (refine byV ?_; intro w hw))
    exact ⟨_, rfl, rfl, hw.drop⟩
  rw [if_neg (by simpa using h)]
  repeat (first | refine byW ?_ | (refine byV ?_; intro w hw))
  exact ⟨_, rfl, rfl, hw.drop⟩⟩
end Go.Proofs.YteiijmclobggjaaGreat
end
/- Two descriptions are compared (loops printed by a program). -/
section
open Go Mk
namespace Go.Proofs.YteiijmclobggjaaGreat
set_option maxHeartbeats 8000000
attribute [local irreducible] Calls
theorem eq_of_all {α : Type} {xs ys : List α} {k : Nat} (hl : xs.length = ys.length) (hk : xs.length ≤ k) (h : ∀ (i : Nat) (x y : α), i < k → xs[i]? = some x → ys[i]? = some y → x = y) : xs = ys := by
  apply List.ext_getElem? 
  intro i
  by_cases hi : i < xs.length
  · obtain ⟨x, hx⟩ := get_lt hi
    obtain ⟨y, hy⟩ := get_lt (l := ys) (k := i) (by omega)
    rw [hx, hy, h i x y (by omega) hx hy]
  · rw [List.getElem?_eq_none (by omega), List.getElem?_eq_none (by omega)]
theorem eq_step {α : Type} {xs ys : List α} {k : Nat} {x y : α} (h : ∀ (i : Nat) (x y : α), i < k → xs[i]? = some x → ys[i]? = some y → x = y) (hx : xs[k]? = some x) (hy : ys[k]? = some y) (e : x = y) : ∀ (i : Nat) (x y : α), i < k + 1 → xs[i]? = some x → ys[i]? = some y → x = y := fun i a b hi ha hb => by
  by_cases q : i = k
  · subst q; rw [hx] at ha; rw [hy] at hb; cases ha; cases hb; exact e
  · exact h i a b (by omega) ha hb
end Go.Proofs.YteiijmclobggjaaGreat
end
/- The program's parser: Parse, which recovers what the parser throws. -/
section
open Go Mk
namespace Go.Proofs.YteiijmclobggjaaGreat
set_option maxHeartbeats 4000000
attribute [local irreducible] Calls
/-- A description in a variable that a function answers. -/
abbrev hwZ : List Value := [.string ⟨#[]⟩, .slice none 0 0, .slice none 0 0, .slice none 0 0, .slice none 0 0, .slice none 0 0]
section
variable {Γ : Gho} {S : List Res} {w : World} {b2 b3 b4 : Nat} {h0 : Array Value} {p0 : PosT} {e0 : Int}
end
section
variable {Γ : Gho} {S : List Res} {w : World}
end
end Go.Proofs.YteiijmclobggjaaGreat
end
/- The sanity check of the chapter: its examples. -/
section
open Go Mk
namespace Go.Proofs.YteiijmclobggjaaGreat
set_option maxHeartbeats 8000000
attribute [local irreducible] Calls
theorem HwOut.freeze {Γ : Gho} {S : List Res} {w : World} {H : HwT} {u : Value} (h : HwOut Γ H S u w) (hsz : HwSz H) : ∃ Γ', Γ.le Γ' ∧ HwR Γ' u H ∧ Wd Γ' S w := by
  obtain ⟨v1, v2, v3, v4, v5, cs, hcs, hok, rfl, hw⟩ := h
  obtain ⟨a1, n1, c1, rfl, -, -, -⟩ := hw.own_shape (i := 0) rfl
  obtain ⟨a2, n2, c2, rfl, -, -, -⟩ := hw.own_shape (i := 1) rfl
  obtain ⟨a3, n3, c3, rfl, -, -, -⟩ := hw.own_shape (i := 2) rfl
  obtain ⟨a4, n4, c4, rfl, -, -, -⟩ := hw.own_shape (i := 3) rfl
  obtain ⟨a5, n5, c5, rfl, -, -, -⟩ := hw.own_shape (i := 4) rfl
  obtain ⟨Γ1, e1, r1, hw⟩ := hw.freeze
  obtain ⟨Γ2, e2, r2, hw⟩ := hw.freeze
  obtain ⟨Γ3, e3, r3, hw⟩ := hw.freeze
  obtain ⟨Γ4, e4, r4, hw⟩ := hw.freeze
  obtain ⟨Γ5, e5, r5, hw⟩ := hw.freeze
  have f4 := e5
  have f3 := e4.trans f4
  have f2 := e3.trans f3
  have f1 := e2.trans f2
  exact ⟨Γ5, e1.trans f1, ⟨_, _, _, _, _, _, _, _, _, _, _, _, _, _, _, cs, rfl, hcs, fun c hc => (hok c hc).mono (e1.trans f1), hsz, r1.mono f1, r2.mono f2, r3.mono f3, r4.mono f4, r5⟩, hw⟩
def hw1 : HwT := ⟨⟨#[109]⟩, [⟨0, 32, 0, 1⟩], [], [], [], []⟩
def hw2 : HwT := ⟨⟨#[109]⟩, [⟨0, 33, 0, 1⟩], [], [], [], []⟩
theorem sz2 : HwSz hw2 := by unfold HwSz maxS; decide
end Go.Proofs.YteiijmclobggjaaGreat
end
/- From a walk in these words to the given form of a statement; given lists of numbers, as the walk reads them. -/
section
open Go Mk
namespace Go.Proofs.YteiijmclobggjaaGreat
open Go.ChangeShapes Go.WideShapes Go.ChangeAt Go.RowKit

theorem own_knob : ownKnob Tryz.prog.godebug = none := by kernel_rfl
theorem keptBut_wd {W W' : World} {S : List Res} (h : Wd (allG W) S W') (may : MemPlace → Prop) : W.keptBut W' may := by
  refine ⟨h.os, h.out, fun i hi => ?_⟩
  have h1 : W.heap[i]? = some W.heap[i] := Array.getElem?_eq_getElem hi
  have h2 := h.imm i W.heap[i] h1
  rw [h1, h2]
  cases W.heap[i] <;> simp
/-- The arguments read as before; what is answered is true. -/
theorem post_wd {H : Type} {enc : TypeId × Value → H} {f : Func} {s : ChangeSpec} {W W' : World} {S : List Res} {args : Array Value} {v : Value} {ds gs : List (DataW H)} {before pa pv : List MemPlace} {apart : Bool}
    (hW : DataW.Whole enc Tryz.prog f.params.toList s.vars apart W args.toList ds gs before)
    (hres : ∀ (b : Nat) (sp : Nat → Bool) (hd : Bool), DataW.TrodAll enc Tryz.prog W' b sp hd f.resultTypes.toList (v.resultList f.resultTypes.size) (s.fn H (ds ++ gs)).results [])
    (hargs : ∀ sp : Nat → Bool, (∀ p ∈ before, sp p.block = true) → DataW.TrodAll enc Tryz.prog W' 0 sp true f.params.toList args.toList (s.fn H (ds ++ gs)).args pa)
    (hvars : ∀ sp : Nat → Bool, (∀ p ∈ before, sp p.block = true) → DataW.TrodVars enc Tryz.prog W' sp s.vars (s.fn H (ds ++ gs)).vars pv)
    (hps : before = pa ++ pv) (hk : Wd (allG W) S W') : s.post enc Tryz.prog f apart true false false W args v W' := by
  have hold : ∀ p ∈ before, (fun b => decide (b < W.heap.size)) p.block = true := fun p hp => by simpa using hW.lt p hp
  exact ⟨ds, gs, before, [], pa, pv, hW, hres _ _ _, hargs _ hold, hvars _ hold, keptBut_wd hk _, fun h => by cases h⟩
theorem wd_back {Γ Γ' : Gho} {w : World} (hle : Γ.le Γ') (h : Wd Γ' [] w) : Wd Γ [] w := by
  obtain ⟨h1, h2, h3, h4, h5, -⟩ := h
  exact ⟨h1.trans hle.os, h2.trans hle.tape, h3.trans hle.out, by rw [← hle.dr]; exact h4, fun b o hb => h5 b o (hle.imm b o hb), [], trivial, by simp, by simp⟩
section
variable {H : Type} {en : TypeId × Value → H} {W W' : World} {base : Nat} {sp : Nat → Bool} {held : Bool} {S : List Res}
theorem flat_inv {sz : Nat} : ∀ {rows : List (List Value)}, (∀ r ∈ rows, r.length = sz) → ∀ {j : Nat} {u : Value}, rows.flatten[j]? = some u → ∃ i r row, rows[i]? = some row ∧ row[r]? = some u ∧ j = i * sz + r
  | [], _, j, u, h => by simp at h
  | a :: rows, hl, j, u, h => by
    rw [List.flatten_cons] at h
    by_cases hj : j < a.length
    · rw [List.getElem?_append_left hj] at h
      exact ⟨0, j, a, rfl, h, by omega⟩
    · rw [List.getElem?_append_right (by omega)] at h
      obtain ⟨i, r, row, h1, h2, h3⟩ := flat_inv (fun r hr => hl r (List.mem_cons_of_mem _ hr)) h
      have ha := hl a (List.mem_cons_self ..)
      refine ⟨i + 1, r, row, by simpa using h1, h2, ?_⟩
      rw [Nat.add_mul, Nat.one_mul]; omega
theorem read_ints {n : Nat} {v : Value} {y : DataW H × List MemPlace} (h : DataW.trod en Tryz.prog W base sp held n 29 [v] = some y) : ∃ xs : List Int, RepS (allG W) v 1 (intRows xs) := by
  have hc : Tryz.prog.cellsOf 3 = 1 := by kernel_rfl
  rcases Deep.open_slice Tryz.underlying29 h with ⟨h0, -⟩ | ⟨a, len, cap, m, k, D, Pl, h0, -, hlc, hcm, hm, -, hel⟩
  · cases h0
    refine ⟨[], ?_⟩
    unfold RepS intRows
    exact ⟨by simp, none, 0, 0, rfl, rfl, by omega, Nat.zero_le _, fun hh => by simp at hh⟩
  · cases h0
    have hlm : len ≤ m := by rw [hm]; split <;> omega
    have hx : ∀ i, i < len → ∃ s : Int, ∀ j u, [Value.int .i64 s][j]? = some u → W.cell? (a.add (i * 1 + j)) = some u := fun i hi => by
      obtain ⟨cs', h1, h2⟩ := hel i (by omega)
      rw [hc] at h1
      obtain ⟨-, hl, hat⟩ := World.cells?_some h1
      obtain ⟨s, rfl, -⟩ := DataW.trod_int Tryz.underlying3 h2
      refine ⟨s, fun j u hu => ?_⟩
      have hj : j < 1 := by rw [← hl]; exact (List.getElem?_eq_some_iff.1 hu).1
      have := hat j hj
      rw [hu, Go.Deep.add_add] at this
      exact this
    have : ∃ f : Nat → Int, ∀ i, i < len → ∀ j u, [Value.int .i64 (f i)][j]? = some u → W.cell? (a.add (i * 1 + j)) = some u := by
      have dflt : Int := 0
      refine ⟨fun i => if hi : i < len then (hx i hi).choose else dflt, fun i hi => ?_⟩
      simp only [hi, dif_pos]
      exact (hx i hi).choose_spec
    obtain ⟨f, hf⟩ := this
    refine ⟨(List.range len).map f, ?_⟩
    unfold RepS intRows
    refine ⟨fun r hr => ?_, some a, len, cap, rfl, by simp, hlc, hcm, fun hpos => ?_⟩
    · obtain ⟨s, -, rfl⟩ := List.mem_map.1 hr
      rfl
    · have hpos : 0 < len := by simpa using hpos
      have h00 := hf 0 hpos 0 (.int .i64 (f 0)) rfl
      obtain ⟨g, o, spt⟩ := a
      have h01 : W.cell? ⟨g, o + 0, spt⟩ = some (.int .i64 (f 0)) := h00
      unfold World.cell? at h01
      cases hg : W.heap[g]? with
      | none => rw [hg] at h01; simp at h01
      | some ob =>
        rw [hg] at h01
        cases ob with
        | cells cur e fr =>
          cases spt with
          | some q => simp at h01
          | none =>
            refine ⟨g, o, cur, e, fr, rfl, hg, fun j u hj => ?_⟩
            obtain ⟨i, r, row, h1, h2, h3⟩ := flat_inv (sz := 1) (rows := ((List.range len).map f).map fun x => [Value.int .i64 x]) (fun r hr => by
              obtain ⟨s, -, rfl⟩ := List.mem_map.1 hr
              rfl) hj
            rw [List.getElem?_map, List.getElem?_map] at h1
            have hi : i < len := by
              by_cases hi : i < len
              · exact hi
              · rw [List.getElem?_eq_none (by simpa using hi)] at h1; simp at h1
            rw [List.getElem?_range hi] at h1
            simp only [Option.map_some, Option.some.injEq] at h1
            subst h1
            have h4 : W.cell? ⟨g, o + (i * 1 + r), none⟩ = some u := by
              have h5 := hf i hi r u h2
              rwa [show Addr.add ⟨g, o, none⟩ (i * 1 + r) = ⟨g, o + (i * 1 + r), none⟩ from by
                unfold Addr.add
                by_cases h0 : i * 1 + r = 0
                · rw [if_pos h0, h0]; rfl
                · rw [if_neg h0]] at h5
            unfold World.cell? at h4
            rw [hg] at h4
            rw [h3]
            simpa using h4
        | _ => simp at h01
theorem carry_all (hk : Wd (allG W) S W') : ∀ {ts : List TypeId} {vs : List Value} {ds : List (DataW H)} {ps : List MemPlace}, DataW.TrodAll en Tryz.prog W base sp held ts vs ds ps → (∀ p ∈ ps, p.block < W.heap.size) → DataW.TrodAll en Tryz.prog W' base sp held ts vs ds ps
  | [], [], [], _, h, _ => h
  | _ :: _, _ :: _, _ :: _, _, ⟨p, q, ⟨n, h1⟩, h2, e⟩, hs => ⟨p, q, ⟨n, DataW.trod_carry n _ _ _ h1 fun x hx => by
      have hb := hs x (by rw [e]; exact List.mem_append_left _ hx)
      cases x with
      | cell b off =>
        have h3 : W'.heap[b]? = W.heap[b]? := by
          have h4 : W.heap[b]? = some (W.heap[b]'hb) := Array.getElem?_eq_getElem hb
          rw [h4]; exact hk.imm b _ h4
        show W'.cell? _ = W.cell? _
        unfold World.cell?
        rw [h3]
      | map b =>
        have h4 : W.heap[b]? = some (W.heap[b]'hb) := Array.getElem?_eq_getElem hb
        show W'.heap[b]? = W.heap[b]?
        rw [h4]; exact hk.imm b _ h4⟩, carry_all hk h2 (fun x hx => hs x (by rw [e]; exact List.mem_append_right _ hx)), e⟩
end
theorem own_kids : Kids Tryz.prog (· < Tryz.prog.types.size) := kids_rows (by kernel_rfl) (by kernel_rfl)
theorem own_full : ∀ t e, t < Tryz.prog.types.size → Tryz.prog.underlying t = some (.slice e) → 0 < Tryz.prog.cellsOf e := slices_full_of _ (by kernel_rfl)
end Go.Proofs.YteiijmclobggjaaGreat
end
/- A field of an element of an owned slice is written. -/
section
open Go
namespace Mk
section
variable {P : Program} {n : Nat} {opa : Array Oper} {Γ : Gho} {S : List Res} {QQ : Exit → Fr → World → Prop} {K : Value → World → Prop} {ρ : Fr} {w : World} {rest : List Oper} {sz : Nat} {rows : List (List Value)}
variable {d : Option Tmp} {T U ty : TypeId} {pos : String} {es : Array Edge} {g : Option (Nat × Bool)} {x y z : Operand} {v : Value}
end
end Mk
end
/- Drawn regions: steps that change one or two cells; cells of which only a relation is known. -/
section
open Go
namespace Mk
attribute [local irreducible] Calls
theorem W_cutT {P : Program} {n : Nat} {c : Code} {K : Fr → World → Prop} {Q : Exit → Fr → World → Prop} {ρ : Fr} {w : World} (I : Fr → World → Prop) (h1 : W P n c (Then I Q) ρ w) (h2 : ∀ ρ w, I ρ w → K ρ w) : W P n c (Then K Q) ρ w :=
  h1.mono fun e ρ w h => by
    cases e with
    | normal => exact h2 ρ w h
    | _ => exact h
section
variable {P : Program} {n : Nat} {ops : List Oper} {Γ : Gho} {K : List Res} {wr tc stab : List (List Nat)} {Q : Fr → World → Prop} {i : Nat} {rest : List Oper} {ρ : Fr} {w : World} {M : Nat → Fr → List Res} {v : Value} {T T' : Type} {o : Oper}
variable {ty : TypeId} {pos : String} {es : Array Edge}
theorem ml1 {a b d : Fr → List Res} : ML [a, b, d] 1 = b := rfl
theorem ml2 {a b d : Fr → List Res} : ML [a, b, d] 2 = d := rfl
theorem exC_open {φ : T → Fr → Prop} {R : T → List Res} {g : Fr} {Z : List Res} (h : Wd Γ (exC φ R g ++ Z) w) : ∃ t, φ t g ∧ Wd Γ (R t ++ Z) w := by
  obtain ⟨⟨t, ht⟩, hw⟩ := Wd.openEx (S := Z) h
  exact ⟨t, ht, hw⟩
theorem exC_mk {φ : T → Fr → Prop} {R : T → List Res} {g : Fr} {Z : List Res} (t : T) (ht : φ t g) (h : Wd Γ (R t ++ Z) w) : Wd Γ (exC φ R g ++ Z) w :=
  Wd.closeEx (X := fun p : {t : T // φ t g} => R p.1) ⟨t, ht⟩ h
theorem mM2 {c c2 : Nat} (m m2 : Fr → List Res) (hs : ∀ Y w g, Wd Γ (K ++ (cellsAt tc stab i M g ++ Y)) w → Step P o (ovr stab.flatten g ρ) w fun u w' => Wd Γ (K ++ (cellsAt tc stab i (setC (setC M c m) c2 m2) (putO g o.dst u) ++ Y)) w' ∧ (freeD stab o.dst = false → u = v))
    (h : MSw (mV P n ops Γ K wr tc stab) Q (i + 1) rest ⟨putO ρ o.dst v, setC (setC M c m) c2 m2⟩) (hw0 : wr.getD i [] = [c, c2]) (hg : o.guard = none) : MSw (mV P n ops Γ K wr tc stab) Q i (o :: rest) ⟨ρ, M⟩ := by
  have hn : Mt.nxt (mV P n ops Γ K wr tc stab) i ⟨ρ, M⟩ ⟨v, setC (setC M c m) c2 m2⟩ = setC (setC M c m) c2 m2 := by
    funext y
    simp only [Mt.nxt, MEnv.w, hw0]
    unfold setC
    by_cases h1 : y = c <;> by_cases h2 : y = c2 <;> simp [h1, h2]
  refine ⟨⟨v, setC (setC M c m) c2 m2⟩, ⟨fun Γ' Y w g hr hw => ?_⟩, ?_⟩
  · have hΓ : Γ' = Γ := hr
    subst hΓ
    rw [hn]
    refine ⟨fun _ => (hs Y w g hw).mono fun u w' ⟨h1, h2⟩ => ⟨Γ', rfl, h1, h2⟩, fun hf => ?_⟩
    rw [wantF_none hg] at hf; cases hf
  · simp only [Mt.next, hn]; exact h
/-- A step that changes the cell c. -/
theorem mS {c : Nat} {F : Fr → List Res} (F' : Fr → List Res)
    (hs : ∀ g w Y, Wd Γ (F (ovr (stab.getD c []) g noFr) ++ (K ++ Y)) w → Step P o (ovr stab.flatten g ρ) w fun u w' => (freeD stab o.dst = false → u = v) ∧ Wd Γ (F' (ovr (stab.getD c []) (putO g o.dst u) noFr) ++ (K ++ Y)) w')
    (h : MSw (mV P n ops Γ K wr tc stab) Q (i + 1) rest ⟨putO ρ o.dst v, setC M c F'⟩) (hM : M c = F := by first | exact setC_self | exact ml1 | exact ml2 | exact ((setC_other (by decide)).trans setC_self) | exact ((setC_other (by decide)).trans ml2) | exact ((setC_other (by decide)).trans ((setC_other (by decide)).trans ml2)) | exact ((setC_other (by decide)).trans ((setC_other (by decide)).trans ((setC_other (by decide)).trans ml2))) | exact ((setC_other (by decide)).trans ((setC_other (by decide)).trans setC_self)) | exact rfl) (hw0 : wr.getD i [] = [c] := by exact rfl) (ht : tc.getD i [] = [c] := by exact rfl) (hg : o.guard = none := by exact rfl) :
    MSw (mV P n ops Γ K wr tc stab) Q i (o :: rest) ⟨ρ, M⟩ := by
  refine mM _ (fun Y w g hw => ?_) h hw0 hg
  rw [cells1 ht, hM] at hw
  refine (hs g w Y hw.swapApp).mono ?_
  rintro u w' ⟨h2, h3⟩
  refine ⟨?_, h2⟩
  rw [cells1 ht, setC_self]
  exact h3.swapApp
/-- A step that changes the cells c and c2. -/
theorem mS2 {c c2 : Nat} {F G : Fr → List Res} (F' G' : Fr → List Res)
    (hs : ∀ g w Y, Wd Γ (F (ovr (stab.getD c []) g noFr) ++ (G (ovr (stab.getD c2 []) g noFr) ++ (K ++ Y))) w → Step P o (ovr stab.flatten g ρ) w fun u w' => (freeD stab o.dst = false → u = v) ∧ Wd Γ (F' (ovr (stab.getD c []) (putO g o.dst u) noFr) ++ (G' (ovr (stab.getD c2 []) (putO g o.dst u) noFr) ++ (K ++ Y))) w')
    (h : MSw (mV P n ops Γ K wr tc stab) Q (i + 1) rest ⟨putO ρ o.dst v, setC (setC M c F') c2 G'⟩) (hM : M c = F := by first | exact setC_self | exact ml1 | exact ml2 | exact ((setC_other (by decide)).trans setC_self) | exact ((setC_other (by decide)).trans ml2) | exact ((setC_other (by decide)).trans ((setC_other (by decide)).trans ml2)) | exact ((setC_other (by decide)).trans ((setC_other (by decide)).trans ((setC_other (by decide)).trans ml2))) | exact ((setC_other (by decide)).trans ((setC_other (by decide)).trans setC_self)) | exact rfl) (hM2 : M c2 = G := by first | exact setC_self | exact ml1 | exact ml2 | exact ((setC_other (by decide)).trans setC_self) | exact ((setC_other (by decide)).trans ml2) | exact ((setC_other (by decide)).trans ((setC_other (by decide)).trans ml2)) | exact ((setC_other (by decide)).trans ((setC_other (by decide)).trans ((setC_other (by decide)).trans ml2))) | exact ((setC_other (by decide)).trans ((setC_other (by decide)).trans setC_self)) | exact rfl) (hw0 : wr.getD i [] = [c, c2] := by exact rfl) (ht : tc.getD i [] = [c, c2] := by exact rfl) (hcc : Nat.beq c c2 = false := by exact rfl) (hg : o.guard = none := by exact rfl) :
    MSw (mV P n ops Γ K wr tc stab) Q i (o :: rest) ⟨ρ, M⟩ := by
  have hne : c ≠ c2 := fun e => by subst e; simp at hcc
  refine mM2 _ _ (fun Y w g hw => ?_) h hw0 hg
  rw [cells2 ht, hM, hM2] at hw
  have hw1 := (hw.perm (by rw [List.append_assoc]; exact (List.perm_append_comm_assoc _ _ _).trans (List.Perm.append_left _ (List.perm_append_comm_assoc _ _ _)))  : Wd Γ (F (ovr (stab.getD c []) g noFr) ++ (G (ovr (stab.getD c2 []) g noFr) ++ (K ++ Y))) w)
  refine (hs g w Y hw1).mono ?_
  rintro u w' ⟨h2, h3⟩
  refine ⟨?_, h2⟩
  rw [cells2 ht, setC_self, setC_other hne, setC_self]
  exact h3.perm (by rw [List.append_assoc]; exact ((List.perm_append_comm_assoc _ _ _).trans (List.Perm.append_left _ (List.perm_append_comm_assoc _ _ _))).symm)
end
end Mk
end
/- Calls that read what is owned and change nothing. -/
section
open Go
namespace Mk
attribute [local irreducible] Calls
class PS (P : Program) (Γ : Gho) (S : List Res) (f : Nat) (args : List Value) (v : outParam Value) : Prop where
  h : ∀ Y w, Wd Γ (S ++ Y) w → Calls P f args.toArray w fun e w' => e = .returned v ∧ Wd Γ (S ++ Y) w'
section
variable {P : Program} {n : Nat} {ops : List Oper} {opa : Array Oper} {Γ : Gho} {S K : List Res} {Q : Fr → World → Prop} {QQ : Exit → Fr → World → Prop} {ρ : Fr} {w : World} {rest : List Oper} {wr tc stab : List (List Nat)} {i : Nat} {M : Nat → Fr → List Res}
variable {d : Option Tmp} {ty : TypeId} {pos : String} {es : Array Edge} {v : Value} {f : Nat} {args : List Operand} {tys : Array TypeId} {vs : List Value} {j dj : Nat} {want c : Bool} {g : Option (Nat × Bool)}
end
end Mk
end
/- Slices made by 'make'. -/
section
open Go
namespace Mk
attribute [local irreducible] Calls
theorem made_rows {zs : List Value} {sz : Nat} (hz : zs.length = sz) (h0 : 0 < sz) : ∀ n : Nat, (madeCells zs.toArray (n * sz)).toList = (List.replicate n zs).flatten := fun n => by
  unfold madeCells
  simp only [Array.toList_map, Array.toList_range, List.size_toArray, hz]
  have hf : ∀ i : Nat, zs.toArray[i % sz]! = zs.getD (i % sz) undef := fun i => by
    have hlt : i % sz < zs.length := by rw [hz]; exact Nat.mod_lt _ h0
    rw [getElem!_pos (zs.toArray) _ (by simpa using hlt)]
    simp [List.getD_eq_getElem?_getD, List.getElem?_eq_getElem hlt]
  simp only [hf]
  induction n with
  | zero => simp
  | succ n ih =>
    rw [show (n + 1) * sz = sz + n * sz from by rw [Nat.add_mul]; omega, List.range_add, List.map_append, List.map_map, List.replicate_succ, List.flatten_cons, ← ih]
    congr 1
    · refine List.ext_getElem? fun i => ?_
      rw [List.getElem?_map]
      by_cases hi : i < sz
      · rw [List.getElem?_range hi]
        simp only [Option.map_some, Nat.mod_eq_of_lt hi]
        rw [List.getD_eq_getElem?_getD, List.getElem?_eq_getElem (by omega)]; rfl
      · rw [List.getElem?_eq_none (by simpa using hi), List.getElem?_eq_none (by omega)]; rfl
    · refine List.map_congr_left fun i _ => ?_
      simp
section
variable {P : Program} {n : Nat} {opa : Array Oper} {Γ : Gho} {S : List Res} {QQ : Exit → Fr → World → Prop} {ρ : Fr} {w : World} {rest : List Oper} {K : Value → World → Prop}
variable {d : Option Tmp} {T ty : TypeId} {pos : String} {es : Array Edge} {g : Option (Nat × Bool)} {x y : Operand}
theorem s_makeSlice {E by' len sz : Nat} {zs : List Value} [hT : TL P T E sz by' zs] (hw : Wd Γ S w) (hx : ev ρ x = .int .i64 (len : Nat)) (hy : ev ρ y = .int .i64 (len : Nat)) (hb : (by' : Int) * len ≤ 281474976710656) (h63 : (len : Int) ≤ 9223372036854775807)
    (hk : ∀ a w', Wd Γ (.own (.slice (some a) len len) E sz (List.replicate len zs) :: S) w' → K (.slice (some a) len len) w') : Step P ⟨d, .makeSlice T x y, ty, pos, es, g⟩ ρ w K := by
  obtain ⟨q, z, hq, hz, hzc⟩ := zeroOf_info hT.z
  obtain ⟨q', hq', hs, hb'⟩ := sizeBytes_info hT.s
  rw [hq] at hq'; cases hq'
  have hrun := run_make (P := P) w T E q z hT.h hq hz .i64 .i64 (len : Int) (len : Int) (by omega) (Int.le_refl _) (by rw [hb']; exact hb) h63
  rw [hzc, hs] at hrun
  have hr0 : (execOp (ev ρ) ⟨d, .makeSlice T x y, ty, pos, es, g⟩).run P w = .ok (.value (.slice (some ⟨w.heap.size, 0, none⟩) len len)) (w.alloc (.cells (madeCells zs.toArray (len * sz)) E)) := by
    simp only [execOp, hx, hy, Sem.run_bind, hrun, Result.andThen_ok, Int.toNat_natCast]
    rfl
  have hrows := made_rows hT.n.1 hT.n.2 len
  have hfin := hk ⟨w.heap.size, 0, none⟩ (w.alloc (.cells (madeCells zs.toArray (len * sz)) E)) (hw.add (bs := [w.heap.size]) ⟨rfl, rfl, rfl, (by first | exact Nat.le_refl _ | exact Nat.le_succ _), by simp⟩ (by
    unfold Res.own
    refine ⟨fun r hr => by rw [List.eq_of_mem_replicate hr]; exact hT.n.1, _, _, _, rfl, (by simp), Nat.le_refl _, by simp [maxLen]; omega, .inr ⟨w.heap.size, madeCells zs.toArray (len * sz), rfl, rfl, heap_alloc_new w _, size_madeCells _ _, ?_⟩⟩
    rw [hrows, List.take_of_length_le]
    rw [← hrows, Array.length_toList, size_madeCells]; exact Nat.le_refl _) (by simp) (by simp) fun k hk => heap_alloc_old w _ hk)
  unfold Step; rw [hr0]; exact hfin
theorem lMakeSlice {E by' len sz : Nat} {zs : List Value} [hT : TL P T E sz by' zs] (h : ∀ a w', Wd Γ (.own (.slice (some a) len len) E sz (List.replicate len zs) :: S) w' → L P n opa QQ rest (putO ρ d (.slice (some a) len len)) w')
    (hw : Wd Γ S w := by exact hw) (hx : ev ρ x = .int .i64 (len : Nat) := by exact rfl) (hy : ev ρ y = .int .i64 (len : Nat) := by exact rfl) (hb : (by' : Int) * len ≤ 281474976710656 := by omega) (h63 : (len : Int) ≤ 9223372036854775807 := by omega) (hd : okDst n d = true := by exact rfl) :
    L P n opa QQ (⟨d, .makeSlice T x y, ty, pos, es, none⟩ :: rest) ρ w := L_step rfl hd (s_makeSlice hw hx hy hb h63 h)
end
end Mk
end
/- The reference's SameInts and Equal (printed by a program). -/
section
open Go Mk
namespace Go.Proofs.YteiijmclobggjaaGreat
set_option maxHeartbeats 16000000
attribute [local irreducible] Calls
/-- A description in memory that is never changed again, its names of any length. -/
class HwQ (Γ : Gho) (u : Value) (H : outParam HwT) : Prop where
  h : ∃ (a1 : Option Addr) (n1 c1 : Nat) (a2 : Option Addr) (n2 c2 : Nat) (a3 : Option Addr) (n3 c3 : Nat) (a4 : Option Addr) (n4 c4 : Nat) (a5 : Option Addr) (n5 c5 : Nat) (cs : List CacheH),
    u = .agg #[.string H.Name, .slice a1 n1 c1, .slice a2 n2 c2, .slice a3 n3 c3, .slice a4 n4 c4, .slice a5 n5 c5] ∧ cs.map CacheH.T = H.Caches ∧ (∀ c ∈ cs, COk Γ c) ∧
    RepS Γ (.slice a1 n1 c1) 4 (H.Cores.map enc) ∧ RepS Γ (.slice a2 n2 c2) 5 (cs.map cC) ∧ RepS Γ (.slice a3 n3 c3) 3 (H.Links.map enc) ∧ RepS Γ (.slice a4 n4 c4) 5 (H.Mems.map enc) ∧ RepS Γ (.slice a5 n5 c5) 5 (H.Devs.map enc)
instance pg_SameInts {Γ : Gho} {v v2 : Value} {xs ys : List Int} [hr : SlC Γ v 1 (intRows xs)] [hr2 : SlC Γ v2 1 (intRows ys)] : PG Tryz.prog Γ 18 [v, v2] (.bool (decide (xs = ys))) := ⟨fun S w hw => by
  have hr := hr.h
  have hr2 := hr2.h
  obtain ⟨a, n, c, rfl, hn, hnc, hc⟩ := hr.shape
  obtain ⟨a', n', c', rfl, hn', hnc', hc'⟩ := hr2.shape
  simp only [intRows, List.length_map] at hn hn'
  refine calls_of_W Tryz.func18 rfl rfl ?_
  repeat (first | refine byW ?_ | (refine byV ?_; intro w hw))
  refine W_cond rfl (fun h => ?_) (fun h => ?_)
  · have h : n ≠ n' := by simp at h; omega
    repeat (first | refine byW ?_ | (refine byV ?_; intro w hw))
    exact ⟨_, rfl, ret_b rfl (decide_eq_false fun e => h (by rw [hn, hn', e])).symm, hw⟩
  have h : n = n' := by simp at h; omega
  repeat (first | refine byW ?_ | (refine byV ?_; intro w hw))
  refine W_loop (fun μ ρ w => ∃ (k : Nat), μ + k = n ∧ Has ρ [(0, .slice a n c), (1, .slice a' n' c'), (5, .int .i64 k)] ∧ (∀ (i : Nat) (x y : Int), i < k → xs[i]? = some x → ys[i]? = some y → x = y) ∧ Wd Γ S w) n ⟨0, by omega, ⟨rfl, rfl, rfl, trivial⟩, fun i x y hi => absurd hi (Nat.not_lt_zero i), hw⟩ ?_
  clear hw
  rintro μ ρ w ⟨k, hk, hρ, hall, hw⟩
  rw [hρ.eq]
  repeat (first | refine byW ?_ | (refine byV ?_; intro w hw))
  refine W_cond rfl (fun h2 => ?_) (fun h2 => ?_)
  · have hkn : k < n := by simpa using h2
    obtain ⟨x, hx⟩ := get_lt (l := xs) (k := k) (by omega)
    obtain ⟨y, hy⟩ := get_lt (l := ys) (k := k) (by omega)
    repeat (first | refine byW ?_ | (refine byV ?_; intro w hw))
    refine W_quiet (by kernel_rfl) (by kernel_rfl) hw ?_
    repeat (first | refine Q_nil ?_ | (apply Q_plain; first | (apply Q_go; first | refine qP ?_ | refine qPg ?_) | refine qY ?_) | (apply Q_guarded; first | (apply Q_go; first | refine qPG ?_ | refine qPgG ?_) | refine qG ?_))
    intro w hw
    refine W_cond rfl (fun h3 => ?_) (fun h3 => ?_)
    · have h3 : x ≠ y := of_decide_eq_true h3
      repeat (first | refine byW ?_ | (refine byV ?_; intro w hw))
      exact ⟨_, rfl, ret_b rfl (decide_eq_false fun e => h3 (by subst e; rw [hx] at hy; cases hy; rfl)).symm, hw⟩
    · have h3 : x = y := Classical.not_not.1 (of_decide_eq_false h3)
      repeat (first | refine byW ?_ | (refine byV ?_; intro w hw))
      exact ⟨μ - 1, by omega, k + 1, by omega, ⟨rfl, rfl, rfl, trivial⟩, eq_step hall hx hy h3, hw⟩
  · have hkn : ¬ k < n := by simpa using h2
    repeat (first | refine byW ?_ | (refine byV ?_; intro w hw))
    exact ⟨_, rfl, ret_b rfl (decide_eq_true (eq_of_all (by omega) (by omega) hall)).symm, hw⟩⟩
end Go.Proofs.YteiijmclobggjaaGreat
end
/- Calls of function values in regions that own nothing, behind a guard. -/
section
open Go
namespace Mk
attribute [local irreducible] Calls
section
variable {P : Program} {n : Nat} {ops : List Oper} {Γ : Gho} {S : List Res} {Q : Fr → World → Prop} {ρ : Fr} {rest : List Oper}
variable {d : Option Tmp} {ty : TypeId} {pos : String} {es : Array Edge} {v : Value} {f t : Nat} {args : List Operand} {tys : Array TypeId} {vs : List Value} {j dj : Nat} {want c : Bool}
end
end Mk
end
/- Guards that are known, in drawn regions; calls under which all that was there stays. -/
section
open Go
namespace Mk
attribute [local irreducible] Calls
/-- A call that keeps all that was there keeps what is owned. -/
theorem wd_kept {Γ : Gho} {S : List Res} {w w' : World} (h : Wd Γ S w) (h' : Wd (allG w) [] w') : Wd Γ S w' := by
  obtain ⟨h1, h2, h3, h4, h5, bss, h6, h7, h8⟩ := h
  obtain ⟨k1, k2, k3, k4, k5, -⟩ := h'
  have hk : ∀ b ∈ bss.flatten, w'.heap[b]? = w.heap[b]? := fun b hb => by
    have hl := (h8 b hb).1
    have e : w.heap[b]? = some w.heap[b] := Array.getElem?_eq_getElem hl
    rw [e]; exact k5 b _ e
  refine ⟨k1.trans h1, k2.trans h2, k3.trans h3, Nat.le_trans h4 k4, fun b o hb => k5 b o (h5 b o hb), bss, Holds.loc (fun b o h => h) S bss (fun b hb => hk b hb) h6, h7, fun b hb => ⟨?_, (h8 b hb).2⟩⟩
  have hl := (h8 b hb).1
  have e : w.heap[b]? = some w.heap[b] := Array.getElem?_eq_getElem hl
  have := hk b hb
  rw [e] at this
  exact (Array.getElem?_eq_some_iff.1 this).1
theorem wd_less {Γ Γ' : Gho} {w : World} (hle : Γ.le Γ') (h : Wd Γ' [] w) : Wd Γ [] w := by
  obtain ⟨h1, h2, h3, h4, h5, -⟩ := h
  exact ⟨h1.trans hle.os, h2.trans hle.tape, h3.trans hle.out, by rw [← hle.dr]; exact h4, fun b o hb => h5 b o (hle.imm b o hb), [], trivial, by simp, by simp⟩
section
variable {P : Program} {n : Nat} {ops : List Oper} {Γ : Gho} {K : List Res} {wr tc stab : List (List Nat)} {Q : Fr → World → Prop} {i : Nat} {rest : List Oper} {ρ : Fr} {M : Nat → Fr → List Res}
variable {d : Option Tmp} {op : Op} {ty : TypeId} {pos : String} {es : Array Edge} {j dj : Nat} {want : Bool}
end
end Mk
end
/- Guards that are known to be false, in drawn regions; a negative number, wrapped. -/
section
open Go
namespace Mk
attribute [local irreducible] Calls
section
variable {P : Program} {n : Nat} {ops : List Oper} {Γ : Gho} {K : List Res} {wr tc stab : List (List Nat)} {Q : Fr → World → Prop} {i : Nat} {rest : List Oper} {ρ : Fr} {M : Nat → Fr → List Res}
variable {d : Option Tmp} {op : Op} {ty : TypeId} {pos : String} {es : Array Edge} {j dj : Nat} {want : Bool}
end
end Mk
end
/- A string is appended to owned bytes; a pointer is turned into an unsafe one and back; the string of some bytes. -/
section
open Go
namespace Mk
attribute [local irreducible] Calls
section
variable {P : Program} {Γ : Gho} {S : List Res} {w : World} {ρ : Fr} {K : Value → World → Prop} {d : Option Tmp} {T U ty : TypeId} {pos : String} {es : Array Edge} {g : Option (Nat × Bool)} {x y z : Operand}
end
end Mk
end
/- A call that changes one cell of a drawn region in a known way. -/
section
open Go
namespace Mk
attribute [local irreducible] Calls
section
variable {P : Program} {n : Nat} {ops : List Oper} {Γ : Gho} {K : List Res} {wr tc stab : List (List Nat)} {Q : Fr → World → Prop} {i : Nat} {rest : List Oper} {ρ : Fr} {M : Nat → Fr → List Res}
variable {d : Option Tmp} {ty : TypeId} {pos : String} {es : Array Edge} {f : Nat} {args : List Operand} {tys : Array TypeId} {vs : List Value} {v : Value}
theorem mCallS {c : Nat} {X : List Res} (X' : List Res) [FnOk P f] (hs : ∀ R w, Wd Γ (X ++ R) w → Calls P f vs.toArray w fun e w' => e = .returned v ∧ Wd Γ (X' ++ R) w')
    (h : MSw (mV P n ops Γ K wr tc stab) Q (i + 1) rest ⟨putO ρ d v, setC M c fun _ => X'⟩) (hM : M c = fun _ => X := by first | exact setC_self | exact ml1 | exact ml2 | exact rfl) (hw0 : wr.getD i [] = [c] := by exact rfl) (ht : tc.getD i [] = [c] := by exact rfl) (ha : ∀ g, EvL (ovr stab.flatten g ρ) args vs := by intro g; exact byEV) :
    MSw (mV P n ops Γ K wr tc stab) Q i (⟨d, .call { callee := .value (.func f), args := args.toArray, argTypes := tys }, ty, pos, es, none⟩ :: rest) ⟨ρ, M⟩ :=
  mS (F := fun _ => X) (fun _ => X') (fun g w Y hw => s_call (ha g).eqA ((hs _ w hw).mono fun e w' ⟨h1, h2⟩ => ⟨v, h1, fun _ => rfl, h2⟩)) h hM hw0 ht rfl
end
end Mk
end
/- A call in a drawn region that changes one cell, its answer held by an open slot. -/
section
open Go
namespace Mk
attribute [local irreducible] Calls
section
variable {P : Program} {n : Nat} {ops : List Oper} {Γ : Gho} {K : List Res} {wr tc stab : List (List Nat)} {Q : Fr → World → Prop} {i : Nat} {rest : List Oper} {ρ : Fr} {M : Nat → Fr → List Res}
variable {d : Option Tmp} {ty : TypeId} {pos : String} {es : Array Edge} {f : Nat} {args : List Operand} {tys : Array TypeId}
theorem mCallG {c : Nat} {F : Fr → List Res} (F' : Fr → List Res) (vs : Fr → List Value) [FnOk P f]
    (hs : ∀ g w Y, Wd Γ (F (ovr (stab.getD c []) g noFr) ++ (K ++ Y)) w → Calls P f (vs (ovr (stab.getD c []) g noFr)).toArray w fun e w' => ∃ u, e = .returned u ∧ Wd Γ (F' (ovr (stab.getD c []) (putO g d u) noFr) ++ (K ++ Y)) w')
    (h : MSw (mV P n ops Γ K wr tc stab) Q (i + 1) rest ⟨putO ρ d undef, setC M c F'⟩) (hM : M c = F := by first | exact setC_self | exact ml1 | exact ml2 | exact ((setC_other (by decide)).trans setC_self) | exact rfl) (hw0 : wr.getD i [] = [c] := by exact rfl) (ht : tc.getD i [] = [c] := by exact rfl) (hfr : freeD stab d = true := by exact rfl) (ha : ∀ g, EvL (ovr stab.flatten g ρ) args (vs (ovr (stab.getD c []) g noFr)) := by intro g; exact byEV) :
    MSw (mV P n ops Γ K wr tc stab) Q i (⟨d, .call { callee := .value (.func f), args := args.toArray, argTypes := tys }, ty, pos, es, none⟩ :: rest) ⟨ρ, M⟩ :=
  mS (v := undef) F' (fun g w Y hw => s_call (ha g).eqA ((hs g w Y hw).mono fun e w' ⟨u, h1, h2⟩ => ⟨u, h1, fun hh => (by rw [hfr] at hh; cases hh), h2⟩)) h hM hw0 ht rfl
end
end Mk
end
/- The check on a drawn region's text, with ancestors held as bits of a number: it serves long chains. -/
section
open Go
namespace Mk
def maskL (done : List Nat) : List Edge → Nat → Nat
  | [], m => m
  | e :: es, m => maskL done es (if Region.binds .any e then (m ||| (1 <<< e.on)) ||| done.getD e.on 0 else m)
def masks : List Nat → List Oper → List Nat
  | done, [] => done
  | done, o :: l => masks (done ++ [maskL done o.after.toList 0]) l
theorem maskL_spec {done : List Nat} {dl : List (List Nat)} (h : ∀ j i, (done.getD j 0).testBit i = true → i ∈ dl.getD j []) : ∀ (es : List Edge) (m i : Nat), (maskL done es m).testBit i = true → m.testBit i = true ∨ i ∈ es.flatMap fun e => if Region.binds .any e then e.on :: (dl.getD e.on []) else []
  | [], m, i, hi => .inl hi
  | e :: es, m, i, hi => by
    rw [List.flatMap_cons]
    rcases maskL_spec h es _ i hi with q | q
    · split at q
      · rename_i hb
        rw [if_pos hb]
        rw [Nat.testBit_or, Nat.testBit_or, Bool.or_eq_true, Bool.or_eq_true] at q
        rcases q with (q | q) | q
        · exact .inl q
        · rw [Nat.one_shiftLeft, Nat.testBit_two_pow] at q
          have q := of_decide_eq_true q
          exact .inr (by rw [q]; simp)
        · exact .inr (List.mem_append_left _ (List.mem_cons_of_mem _ (h _ _ q)))
      · exact .inl q
    · exact .inr (List.mem_append_right _ q)
theorem getD_snoc {α : Type} {l : List α} {x d : α} {j : Nat} : (l ++ [x]).getD j d = if j < l.length then l.getD j d else if j = l.length then x else d := by
  rw [List.getD_eq_getElem?_getD, List.getD_eq_getElem?_getD]
  split
  · rename_i h; rw [List.getElem?_append_left h]
  · rename_i h
    rw [List.getElem?_append_right (by omega)]
    split
    · rename_i e; rw [e, Nat.sub_self]; rfl
    · rw [List.getElem?_eq_none (by simp; omega)]; rfl
theorem masks_spec : ∀ (ops : List Oper) (done : List Nat) (dl : List (List Nat)), done.length = dl.length → (∀ j i, (done.getD j 0).testBit i = true → i ∈ dl.getD j []) → ∀ j i, ((masks done ops).getD j 0).testBit i = true → i ∈ (ancs dl ops).getD j []
  | [], _, _, _, h, j, i, hi => h j i hi
  | o :: ops, done, dl, hl, h, j, i, hi => by
    refine masks_spec ops _ _ (by simp [hl]) (fun j i hi => ?_) j i hi
    rw [getD_snoc] at hi ⊢
    rw [← hl]
    split
    · rename_i hj; rw [if_pos hj] at hi; exact h j i hi
    · rename_i hj
      rw [if_neg hj] at hi
      split
      · rename_i e
        rw [if_pos e] at hi
        rcases maskL_spec h _ _ _ hi with q | q
        · simp at q
        · exact q
      · rename_i e
        rw [if_neg e] at hi
        simp at hi
end Mk
end
/- The reference's Validate: names, ranges, alignment (printed by a program). -/
section
open Go Mk
namespace Go.Proofs.YteiijmclobggjaaGreat
set_option maxHeartbeats 16000000
attribute [local irreducible] Calls
theorem dropG {α : Type} {l : List α} {k : Nat} {x : α} (h : l[k]? = some x) : l.drop k = x :: l.drop (k + 1) := by
  obtain ⟨hk, rfl⟩ := List.getElem?_eq_some_iff.1 h
  exact List.drop_eq_getElem_cons hk
theorem allD {α : Type} {p : α → Bool} {l : List α} {k : Nat} {x : α} (h : l[k]? = some x) : (l.drop k).all p = (p x && (l.drop (k + 1)).all p) := by rw [dropG h, List.all_cons]
theorem allE {α : Type} {p : α → Bool} {l : List α} {k : Nat} (h : l.length ≤ k) : (l.drop k).all p = true := by rw [List.drop_eq_nil_of_le h]; rfl
theorem SB_of {s : ByteArray} (h : s.size ≤ maxS) : SB s := ⟨h⟩
def inB (v lo hi : Int) : Bool := decide (lo ≤ v) && decide (v ≤ hi)
instance pc_in (v lo hi : Int) : PC Tryz.prog 74 [.int .i64 v, .int .i64 lo, .int .i64 hi] (.bool (inB v lo hi)) := ⟨fun w => by
  refine calls_of_W Tryz.func74 rfl rfl ?_
  repeat (first | refine byW ?_ | (refine byV ?_; intro w hw))
  exact ⟨_, rfl, rfl, rfl⟩⟩
instance pc_node (v : Int) : PC Tryz.prog 75 [.int .i64 v] (.bool (inB v 0 63)) := ⟨fun w => by
  refine calls_of_W Tryz.func75 rfl rfl ?_
  repeat (first | refine byW ?_ | (refine byV ?_; intro w hw))
  exact ⟨_, rfl, rfl, rfl⟩⟩
instance pc_span (b s : Int) : PC Tryz.prog 77 [.int .u64 b, .int .u64 s] (.bool (inSpaceB b s)) := ⟨fun w => by
  refine calls_of_W Tryz.func77 rfl rfl ?_
  repeat (first | refine byW ?_ | (refine byV ?_; intro w hw))
  exact ⟨_, rfl, rfl, rfl⟩⟩
def powB (v : Int) : Bool := decide (0 < v) && decide (bitsZ .and .u64 v (IntKind.u64.wrap (v - 1)) = 0)
instance pc_power (v : Int) : PC Tryz.prog 76 [.int .u64 v] (.bool (powB v)) := ⟨fun w => by
  refine calls_of_W Tryz.func76 rfl rfl ?_
  repeat (first | refine byW ?_ | (refine byV ?_; intro w hw))
  exact ⟨_, rfl, rfl, rfl⟩⟩
instance pc_plainR (b : UInt8) : PC Tryz.prog 97 [.int .u8 ((b.toNat : Nat) : Int)] (.bool (inTextC b)) := ⟨fun w => by
  refine calls_of_W Tryz.func97 rfl rfl ?_
  repeat (first | refine byW ?_ | (refine byV ?_; intro w hw))
  refine ⟨_, rfl, ret_b rfl ?_, rfl⟩
  unfold inTextC
  rw [Bool.eq_iff_iff]
  simp only [Bool.and_eq_true, decide_eq_true_eq, Bool.not_eq_true', Bool.or_eq_false_iff, decide_eq_false_iff_not]
  omega⟩
theorem bytesG {s : ByteArray} {k : Nat} (hk : k < s.size) : (s.data.toList)[k]? = some (s.data.toList.getD k 0) := by
  have hk' : k < s.data.toList.length := by rw [size_toList]; exact hk
  rw [List.getD_eq_getElem?_getD, List.getElem?_eq_getElem hk']; rfl
instance pc_PlainR (s : ByteArray) [hs : SB s] : PC Tryz.prog 72 [.string s] (.bool (textB s)) := ⟨fun w => by
  have hs := hs.h
  refine calls_of_W Tryz.func72 rfl rfl ?_
  repeat (first | refine byW ?_ | (refine byV ?_; intro w hw))
  refine W_loop (fun μ ρ w' => ∃ (k : Nat), μ + k = s.size ∧ Has ρ [(0, .string s), (3, .int .i64 k)] ∧ textB s = (s.data.toList.drop k).all inTextC ∧ w' = w) s.size ⟨0, by omega, ⟨rfl, rfl, trivial⟩, rfl, rfl⟩ ?_
  rintro μ ρ w' ⟨k, hk, hρ, hal, rfl⟩
  rw [hρ.eq]
  repeat (first | refine byW ?_ | (refine byV ?_; intro w hw))
  refine W_cond rfl (fun h => ?_) (fun h => ?_)
  · have hkn : k < s.size := by have := of_decide_eq_true h; omega
    have hb := bytesG hkn
    rw [allD hb] at hal
    repeat (first | refine byW ?_ | (refine byV ?_; intro w hw))
    refine W_cond rfl (fun h => ?_) (fun h => ?_)
    · have h : (!inTextC (s.data.toList.getD k 0)) = true := h
      rw [Bool.not_eq_true'] at h
      repeat (first | refine byW ?_ | (refine byV ?_; intro w hw))
      refine ⟨_, rfl, ret_b rfl ?_, rfl⟩
      rw [hal, h]; rfl
    · have h : (!inTextC (s.data.toList.getD k 0)) = false := h
      rw [Bool.not_eq_false'] at h
      rw [h, Bool.true_and] at hal
      repeat (first | refine byW ?_ | (refine byV ?_; intro w hw))
      exact ⟨μ - 1, by omega, k + 1, by omega, ⟨rfl, rfl, trivial⟩, hal, rfl⟩
  · have hkn : s.size ≤ k := by have := of_decide_eq_false h; omega
    rw [allE (by rw [size_toList]; exact hkn)] at hal
    repeat (first | refine byW ?_ | (refine byV ?_; intro w hw))
    exact ⟨_, rfl, ret_b rfl hal.symm, rfl⟩⟩
theorem notF {a : Bool} (h : (!a) = true) : a = false := by rwa [Bool.not_eq_true'] at h
theorem notT {a : Bool} (h : (!a) = false) : a = true := by rwa [Bool.not_eq_false'] at h

theorem names_any {Γ : Gho} {u : Value} {H : HwT} [hh : HwR Γ u H] {S : List Res} {w : World} (hw : Wd Γ S w) :
    Calls Tryz.prog 48 #[u] w fun e w' => e = .returned (.bool (namesB H)) ∧ Wd Γ S w' := by
  obtain ⟨a1, n1, c1, a2, n2, c2, a3, n3, c3, a4, n4, c4, a5, n5, c5, cs, rfl, hcs, hok, hsz, r1, r2, r3, r4, r5⟩ := hh.h
  obtain ⟨f1, f1', f1''⟩ := rep_facts r1
  obtain ⟨f2, f2', f2''⟩ := rep_facts r2
  obtain ⟨f3, f3', f3''⟩ := rep_facts r3
  obtain ⟨f4, f4', f4''⟩ := rep_facts r4
  obtain ⟨f5, f5', f5''⟩ := rep_facts r5
  simp only [List.length_map] at f1 f2 f3 f4 f5
  have hcl : cs.length = H.Caches.length := by rw [← hcs, List.length_map]
  haveI : SB H.Name := SB_of hsz.1
  refine calls_of_W Tryz.func48 rfl rfl ?_
  repeat (first | refine byW ?_ | (refine byV ?_; intro w hw))
  refine lBox ?_
  intro b1 w hw
  have hw : Wd Γ (.blk b1 (hwC H a1 n1 c1 a2 n2 c2 a3 n3 c3 a4 n4 c4 a5 n5 c5) :: S) w := hw
  repeat (first | refine byW ?_ | (refine byV ?_; intro w hw))
  have hN : namesB H = (headB H && (H.Caches.all (fun c => nameS c.Name) && (H.Mems.all (fun c => nameS c.Name) && H.Devs.all (fun c => nameS c.Name)))) := by unfold namesB; simp only [Bool.and_assoc]
  rw [hN]
  refine W_cond rfl (fun h => ?_) (fun h => ?_)
  · have h : ((decide (H.Name = ⟨#[]⟩) || decide ((24 : Int) < (H.Name.size : Nat))) || !textB H.Name) = true := h
    repeat (first | refine byW ?_ | (refine byV ?_; intro w hw))
    refine ⟨_, rfl, ret_b rfl ?_, hw.drop⟩
    have : headB H = false := by
      unfold headB
      simp only [Bool.or_eq_true, decide_eq_true_eq, Bool.not_eq_true'] at h
      rcases h with (h | h) | h
      · rw [decide_eq_false (show ¬ H.Name ≠ ⟨#[]⟩ from fun q => q h)]; rfl
      · rw [decide_eq_false (show ¬ H.Name.size ≤ 24 by omega), Bool.and_false]; rfl
      · rw [h, Bool.and_false]
    rw [this]; rfl
  have h : ((decide (H.Name = ⟨#[]⟩) || decide ((24 : Int) < (H.Name.size : Nat))) || !textB H.Name) = false := h
  have hHd : headB H = true := by
    unfold headB
    simp only [Bool.or_eq_false_iff, decide_eq_false_iff_not, Bool.not_eq_false'] at h
    rw [decide_eq_true (show H.Name ≠ ⟨#[]⟩ from h.1.1), decide_eq_true (show H.Name.size ≤ 24 by omega), h.2]; rfl
  rw [hHd, Bool.true_and]
  clear h hN
  repeat (first | refine byW ?_ | (refine byV ?_; intro w hw))
  refine W_loop (fun μ ρ w => ∃ (k : Nat), μ + k = n2 ∧ Has ρ [(1, .pointer (some ⟨b1, 0, none⟩)), (3, .int .i64 k)] ∧ H.Caches.all (fun c => nameS c.Name) = (H.Caches.drop k).all (fun c => nameS c.Name) ∧ Wd Γ (.blk b1 (hwC H a1 n1 c1 a2 n2 c2 a3 n3 c3 a4 n4 c4 a5 n5 c5) :: S) w) n2 ⟨0, by omega, ⟨rfl, rfl, trivial⟩, rfl, hw⟩ ?_
  clear hw
  rintro μ ρ w ⟨k, hk, hρ, hal, hw⟩
  rw [hρ.eq]
  repeat (first | refine byW ?_ | (refine byV ?_; intro w hw))
  refine W_cond rfl (fun h => ?_) (fun h => ?_)
  · have hkn : k < n2 := by have := of_decide_eq_true h; omega
    clear h
    obtain ⟨x, hx⟩ := get_lt (l := cs) (k := k) (by omega)
    obtain ⟨g1, g2, g3⟩ := (hok x (List.mem_of_getElem? hx)).facts
    have hxT : H.Caches[k]? = some x.T := by rw [← hcs, List.getElem?_map, hx]; rfl
    rw [allD hxT] at hal
    haveI : SB x.Name := SB_of (hsz.2.1 x.T (List.mem_of_getElem? hxT))
    repeat (first | refine byW ?_ | (refine byV ?_; intro w hw))
    refine W_cond rfl (fun h => ?_) (fun h => ?_)
    · have hz : nameS x.Name = false := notF h
      repeat (first | refine byW ?_ | (refine byV ?_; intro w hw))
      refine ⟨_, rfl, ret_b rfl ?_, hw.drop⟩
      rw [show H.Caches.all (fun c => nameS c.Name) = (nameS x.Name && (H.Caches.drop (k + 1)).all (fun c => nameS c.Name)) from hal, hz]; rfl
    · have hz : nameS x.Name = true := notT h
      have hal : H.Caches.all (fun c => nameS c.Name) = (nameS x.Name && (H.Caches.drop (k + 1)).all (fun c => nameS c.Name)) := hal
      rw [hz, Bool.true_and] at hal
      repeat (first | refine byW ?_ | (refine byV ?_; intro w hw))
      exact ⟨μ - 1, by omega, k + 1, by omega, ⟨rfl, rfl, trivial⟩, hal, hw⟩
  have hkn : n2 ≤ k := by have := of_decide_eq_false h; omega
  clear h
  rw [allE (by omega)] at hal
  rw [hal, Bool.true_and]
  clear hk hρ
  repeat (first | refine byW ?_ | (refine byV ?_; intro w hw))
  refine W_loop (fun μ ρ w => ∃ (k : Nat), μ + k = n4 ∧ Has ρ [(1, .pointer (some ⟨b1, 0, none⟩)), (4, .int .i64 k)] ∧ H.Mems.all (fun c => nameS c.Name) = (H.Mems.drop k).all (fun c => nameS c.Name) ∧ Wd Γ (.blk b1 (hwC H a1 n1 c1 a2 n2 c2 a3 n3 c3 a4 n4 c4 a5 n5 c5) :: S) w) n4 ⟨0, by omega, ⟨rfl, rfl, trivial⟩, rfl, hw⟩ ?_
  clear hw hal
  rintro μ ρ w ⟨k, hk, hρ, hal, hw⟩
  rw [hρ.eq]
  repeat (first | refine byW ?_ | (refine byV ?_; intro w hw))
  refine W_cond rfl (fun h => ?_) (fun h => ?_)
  · have hkn : k < n4 := by have := of_decide_eq_true h; omega
    clear h
    obtain ⟨x, hx⟩ := get_lt (l := H.Mems) (k := k) (by omega)
    rw [allD hx] at hal
    haveI : SB x.Name := SB_of (hsz.2.2.1 x (List.mem_of_getElem? hx))
    repeat (first | refine byW ?_ | (refine byV ?_; intro w hw))
    refine W_cond rfl (fun h => ?_) (fun h => ?_)
    · have hz : nameS x.Name = false := notF h
      repeat (first | refine byW ?_ | (refine byV ?_; intro w hw))
      refine ⟨_, rfl, ret_b rfl ?_, hw.drop⟩
      rw [hal, hz]; rfl
    · have hz : nameS x.Name = true := notT h
      skip
      rw [hz, Bool.true_and] at hal
      repeat (first | refine byW ?_ | (refine byV ?_; intro w hw))
      exact ⟨μ - 1, by omega, k + 1, by omega, ⟨rfl, rfl, trivial⟩, hal, hw⟩
  have hkn : n4 ≤ k := by have := of_decide_eq_false h; omega
  clear h
  rw [allE (by omega)] at hal
  rw [hal, Bool.true_and]
  clear hk hρ
  repeat (first | refine byW ?_ | (refine byV ?_; intro w hw))
  refine W_loop (fun μ ρ w => ∃ (k : Nat), μ + k = n5 ∧ Has ρ [(1, .pointer (some ⟨b1, 0, none⟩)), (5, .int .i64 k)] ∧ H.Devs.all (fun c => nameS c.Name) = (H.Devs.drop k).all (fun c => nameS c.Name) ∧ Wd Γ (.blk b1 (hwC H a1 n1 c1 a2 n2 c2 a3 n3 c3 a4 n4 c4 a5 n5 c5) :: S) w) n5 ⟨0, by omega, ⟨rfl, rfl, trivial⟩, rfl, hw⟩ ?_
  clear hw hal
  rintro μ ρ w ⟨k, hk, hρ, hal, hw⟩
  rw [hρ.eq]
  repeat (first | refine byW ?_ | (refine byV ?_; intro w hw))
  refine W_cond rfl (fun h => ?_) (fun h => ?_)
  · have hkn : k < n5 := by have := of_decide_eq_true h; omega
    clear h
    obtain ⟨x, hx⟩ := get_lt (l := H.Devs) (k := k) (by omega)
    rw [allD hx] at hal
    haveI : SB x.Name := SB_of (hsz.2.2.2 x (List.mem_of_getElem? hx))
    repeat (first | refine byW ?_ | (refine byV ?_; intro w hw))
    refine W_cond rfl (fun h => ?_) (fun h => ?_)
    · have hz : nameS x.Name = false := notF h
      repeat (first | refine byW ?_ | (refine byV ?_; intro w hw))
      refine ⟨_, rfl, ret_b rfl ?_, hw.drop⟩
      rw [hal, hz]; rfl
    · have hz : nameS x.Name = true := notT h
      skip
      rw [hz, Bool.true_and] at hal
      repeat (first | refine byW ?_ | (refine byV ?_; intro w hw))
      exact ⟨μ - 1, by omega, k + 1, by omega, ⟨rfl, rfl, trivial⟩, hal, hw⟩
  have hkn : n5 ≤ k := by have := of_decide_eq_false h; omega
  clear h
  rw [allE (by omega)] at hal
  rw [hal]
  clear hk hρ
  repeat (first | refine byW ?_ | (refine byV ?_; intro w hw))
  exact ⟨_, rfl, rfl, hw.drop⟩
def coreBad (c : CoreT) : Bool := ((!inB c.ID 0 31 || (decide (c.Width ≠ 32) && decide (c.Width ≠ 39))) || !inB c.Node 0 63) || !inB c.Speed 1 1000000
def cacheBad (lv ln sz : Int) (n : Nat) : Bool := ((((!inB lv 1 4 || !inB ln 16 256) || !powB (IntKind.u64.wrap ln)) || decide (sz < IntKind.u64.wrap ln)) || decide (sz > 1099511627776)) || decide ((n : Int) = 0)
def linkBad (c : LinkT) : Bool := ((!inB c.A 0 63 || !inB c.B 0 63) || decide (c.A = c.B)) || !inB c.Latency 1 1000000
def memBad (c : MemT) : Bool := (!inB c.Node 0 63 || !inB c.Latency 1 1000000) || !inSpaceB c.Base c.Size
def devBad (c : DevT) : Bool := (!inB c.Node 0 63 || !inB c.IRQ 0 255) || !inSpaceB c.Base c.Size
theorem core_bad (c : CoreT) : coreRB c = !coreBad c := by
  unfold coreRB coreBad inB isNodeB
  rw [Bool.eq_iff_iff]
  simp only [Bool.and_eq_true, Bool.or_eq_true, decide_eq_true_eq, Bool.not_eq_true', Bool.or_eq_false_iff, Bool.not_eq_false', Bool.and_eq_false_iff, decide_eq_false_iff_not]
  omega
theorem link_bad (c : LinkT) : linkRB c = !linkBad c := by
  unfold linkRB linkBad inB isNodeB isLatB
  rw [Bool.eq_iff_iff]
  simp only [Bool.and_eq_true, Bool.or_eq_true, decide_eq_true_eq, Bool.not_eq_true', Bool.or_eq_false_iff, Bool.not_eq_false', Bool.and_eq_false_iff, decide_eq_false_iff_not]
  omega
theorem mem_bad (c : MemT) : memRB c = !memBad c := by
  unfold memRB memBad inB isNodeB isLatB
  generalize inSpaceB c.Base c.Size = q
  rw [Bool.eq_iff_iff]
  simp only [Bool.and_eq_true, Bool.or_eq_true, decide_eq_true_eq, Bool.not_eq_true', Bool.or_eq_false_iff, Bool.not_eq_false', Bool.and_eq_false_iff, decide_eq_false_iff_not]
  exact and_congr (by omega) Iff.rfl
theorem dev_bad (c : DevT) : devRB c = !devBad c := by
  unfold devRB devBad inB isNodeB
  generalize inSpaceB c.Base c.Size = q
  rw [Bool.eq_iff_iff]
  simp only [Bool.and_eq_true, Bool.or_eq_true, decide_eq_true_eq, Bool.not_eq_true', Bool.or_eq_false_iff, Bool.not_eq_false', Bool.and_eq_false_iff, decide_eq_false_iff_not]
  exact and_congr (by omega) Iff.rfl
theorem line_fin : ∀ n : Fin 257, decide (bitsZ .and .i64 (n.1 : Int) (IntKind.i64.wrap ((n.1 : Int) - 1)) = 0) = decide (bitsZ .and .u64 (n.1 : Int) (IntKind.u64.wrap ((n.1 : Int) - 1)) = 0) ∨ n.1 = 0 := by decide +kernel
theorem cache_bad (c : CacheT) : cacheRB c = !cacheBad c.Level c.Line c.Size c.Cores.length := by
  unfold cacheRB cacheBad
  by_cases hl : 16 ≤ c.Line ∧ c.Line ≤ 256
  · have hw : IntKind.u64.wrap c.Line = c.Line := by rw [IntKind.wrap_u64]; omega
    have hb : decide (bitsZ .and .i64 c.Line (IntKind.i64.wrap (c.Line - 1)) = 0) = powB c.Line := by
      unfold powB
      have := line_fin ⟨c.Line.toNat, by omega⟩
      simp only [show ((c.Line.toNat : Nat) : Int) = c.Line by omega] at this
      rw [decide_eq_true (show 0 < c.Line by omega), Bool.true_and]
      exact this.resolve_right (by omega)
    rw [hw, hb]
    generalize powB c.Line = q
    unfold inB
    rw [Bool.eq_iff_iff]
    simp only [Bool.and_eq_true, Bool.or_eq_true, decide_eq_true_eq, Bool.not_eq_true', Bool.or_eq_false_iff, Bool.not_eq_false', Bool.and_eq_false_iff, decide_eq_false_iff_not]
    rcases Bool.eq_false_or_eq_true q with hq | hq
    · simp only [hq, and_true]; omega
    · simp [hq]
  · have h1 : (decide (16 ≤ c.Line) && decide (c.Line ≤ 256)) = false := by
      rw [Bool.and_eq_false_iff, decide_eq_false_iff_not, decide_eq_false_iff_not]; omega
    have h2 : inB c.Line 16 256 = false := h1
    rw [h2, Bool.not_false, Bool.or_true, Bool.true_or, Bool.true_or, Bool.true_or, Bool.true_or, Bool.not_true]
    rw [Bool.and_eq_false_iff] at h1
    rcases h1 with h1 | h1 <;> simp only [h1, Bool.and_false, Bool.false_and]
theorem bad_no {p q : Bool} (h : p = !q) (hq : q = true) : p = false := by rw [h, hq]; rfl
theorem bad_ok {p q : Bool} (h : p = !q) (hq : q = false) : p = true := by rw [h, hq]; rfl
theorem ranges_any {Γ : Gho} {u : Value} {H : HwT} [hh : HwR Γ u H] {S : List Res} {w : World} (hw : Wd Γ S w) :
    Calls Tryz.prog 49 #[u] w fun e w' => e = .returned (.bool (coresRB H && regionsRB H)) ∧ Wd Γ S w' := by
  obtain ⟨a1, n1, c1, a2, n2, c2, a3, n3, c3, a4, n4, c4, a5, n5, c5, cs, rfl, hcs, hok, hsz, r1, r2, r3, r4, r5⟩ := hh.h
  obtain ⟨f1, f1', f1''⟩ := rep_facts r1
  obtain ⟨f2, f2', f2''⟩ := rep_facts r2
  obtain ⟨f3, f3', f3''⟩ := rep_facts r3
  obtain ⟨f4, f4', f4''⟩ := rep_facts r4
  obtain ⟨f5, f5', f5''⟩ := rep_facts r5
  simp only [List.length_map] at f1 f2 f3 f4 f5
  have hcl : cs.length = H.Caches.length := by rw [← hcs, List.length_map]
  have hN : (coresRB H && regionsRB H) = (H.Cores.all coreRB && (H.Caches.all cacheRB && (H.Links.all linkRB && (H.Mems.all memRB && H.Devs.all devRB)))) := by unfold coresRB regionsRB; simp only [Bool.and_assoc]
  rw [hN]
  clear hN
  refine calls_of_W Tryz.func49 rfl rfl ?_
  repeat (first | refine byW ?_ | (refine byV ?_; intro w hw))
  refine lBox ?_
  intro b1 w hw
  have hw : Wd Γ (.blk b1 (hwC H a1 n1 c1 a2 n2 c2 a3 n3 c3 a4 n4 c4 a5 n5 c5) :: S) w := hw
  repeat (first | refine byW ?_ | (refine byV ?_; intro w hw))
  refine W_loop (fun μ ρ w => ∃ (k : Nat), μ + k = n1 ∧ Has ρ [(1, .pointer (some ⟨b1, 0, none⟩)), (3, .int .i64 k)] ∧ H.Cores.all (coreRB) = (H.Cores.drop k).all (coreRB) ∧ Wd Γ (.blk b1 (hwC H a1 n1 c1 a2 n2 c2 a3 n3 c3 a4 n4 c4 a5 n5 c5) :: S) w) n1 ⟨0, by omega, ⟨rfl, rfl, trivial⟩, rfl, hw⟩ ?_
  clear hw
  rintro μ ρ w ⟨k, hk, hρ, hal, hw⟩
  rw [hρ.eq]
  repeat (first | refine byW ?_ | (refine byV ?_; intro w hw))
  refine W_cond rfl (fun h => ?_) (fun h => ?_)
  · have hkn : k < n1 := by have := of_decide_eq_true h; omega
    clear h
    obtain ⟨x, hx⟩ := get_lt (l := H.Cores) (k := k) (by omega)
    rw [allD hx] at hal
    repeat (first | refine byW ?_ | (refine byV ?_; intro w hw))
    refine lAlloc ?_
    intro b6 w hw
    refine lStore ?_
    intro w hw
    have hw : Wd Γ (.blk b6 (.cells (enc x).toArray 53) :: .blk b1 (hwC H a1 n1 c1 a2 n2 c2 a3 n3 c3 a4 n4 c4 a5 n5 c5) :: S) w := hw
    repeat (first | refine byW ?_ | (refine byV ?_; intro w hw))
    refine W_cond rfl (fun h => ?_) (fun h => ?_)
    · have hz : coreRB x = false := bad_no (core_bad x) (show coreBad x = true from h)
      repeat (first | refine byW ?_ | (refine byV ?_; intro w hw))
      refine ⟨_, rfl, ret_b rfl ?_, hw.ds [0, 0]⟩
      rw [hal, hz]; rfl
    · have hz : coreRB x = true := bad_ok (core_bad x) (show coreBad x = false from h)
      rw [hz, Bool.true_and] at hal
      repeat (first | refine byW ?_ | (refine byV ?_; intro w hw))
      exact ⟨μ - 1, by omega, k + 1, by omega, ⟨rfl, rfl, trivial⟩, hal, hw.drop⟩
  have hkn : n1 ≤ k := by have := of_decide_eq_false h; omega
  clear h
  rw [allE (by omega)] at hal
  rw [hal, Bool.true_and]
  clear hk hρ
  repeat (first | refine byW ?_ | (refine byV ?_; intro w hw))
  refine W_loop (fun μ ρ w => ∃ (k : Nat), μ + k = n2 ∧ Has ρ [(1, .pointer (some ⟨b1, 0, none⟩)), (5, .int .i64 k)] ∧ H.Caches.all (cacheRB) = (H.Caches.drop k).all (cacheRB) ∧ Wd Γ (.blk b1 (hwC H a1 n1 c1 a2 n2 c2 a3 n3 c3 a4 n4 c4 a5 n5 c5) :: S) w) n2 ⟨0, by omega, ⟨rfl, rfl, trivial⟩, rfl, hw⟩ ?_
  clear hw hal
  rintro μ ρ w ⟨k, hk, hρ, hal, hw⟩
  rw [hρ.eq]
  repeat (first | refine byW ?_ | (refine byV ?_; intro w hw))
  refine W_cond rfl (fun h => ?_) (fun h => ?_)
  · have hkn : k < n2 := by have := of_decide_eq_true h; omega
    clear h
    obtain ⟨x, hx⟩ := get_lt (l := cs) (k := k) (by omega)
    obtain ⟨g1, g2, g3⟩ := (hok x (List.mem_of_getElem? hx)).facts
    have hxT : H.Caches[k]? = some x.T := by rw [← hcs, List.getElem?_map, hx]; rfl
    rw [allD hxT] at hal
    repeat (first | refine byW ?_ | (refine byV ?_; intro w hw))
    refine lAlloc ?_
    intro b6 w hw
    refine lStore ?_
    intro w hw
    have hw : Wd Γ (.blk b6 (.cells (cC x).toArray 65) :: .blk b1 (hwC H a1 n1 c1 a2 n2 c2 a3 n3 c3 a4 n4 c4 a5 n5 c5) :: S) w := hw
    repeat (first | refine byW ?_ | (refine byV ?_; intro w hw))
    refine W_cond rfl (fun h => ?_) (fun h => ?_)
    · have hz : cacheRB x.T = false := bad_no (by have := cache_bad x.T; rw [show x.T.Cores.length = x.N from g1.symm] at this; exact this) (show cacheBad x.Level x.Line x.Size x.N = true from h)
      repeat (first | refine byW ?_ | (refine byV ?_; intro w hw))
      refine ⟨_, rfl, ret_b rfl ?_, hw.ds [0, 0]⟩
      rw [hal, hz]; rfl
    · have hz : cacheRB x.T = true := bad_ok (by have := cache_bad x.T; rw [show x.T.Cores.length = x.N from g1.symm] at this; exact this) (show cacheBad x.Level x.Line x.Size x.N = false from h)
      rw [hz, Bool.true_and] at hal
      repeat (first | refine byW ?_ | (refine byV ?_; intro w hw))
      exact ⟨μ - 1, by omega, k + 1, by omega, ⟨rfl, rfl, trivial⟩, hal, hw.drop⟩
  have hkn : n2 ≤ k := by have := of_decide_eq_false h; omega
  clear h
  rw [allE (by omega)] at hal
  rw [hal, Bool.true_and]
  clear hk hρ
  repeat (first | refine byW ?_ | (refine byV ?_; intro w hw))
  refine W_loop (fun μ ρ w => ∃ (k : Nat), μ + k = n3 ∧ Has ρ [(1, .pointer (some ⟨b1, 0, none⟩)), (7, .int .i64 k)] ∧ H.Links.all (linkRB) = (H.Links.drop k).all (linkRB) ∧ Wd Γ (.blk b1 (hwC H a1 n1 c1 a2 n2 c2 a3 n3 c3 a4 n4 c4 a5 n5 c5) :: S) w) n3 ⟨0, by omega, ⟨rfl, rfl, trivial⟩, rfl, hw⟩ ?_
  clear hw hal
  rintro μ ρ w ⟨k, hk, hρ, hal, hw⟩
  rw [hρ.eq]
  repeat (first | refine byW ?_ | (refine byV ?_; intro w hw))
  refine W_cond rfl (fun h => ?_) (fun h => ?_)
  · have hkn : k < n3 := by have := of_decide_eq_true h; omega
    clear h
    obtain ⟨x, hx⟩ := get_lt (l := H.Links) (k := k) (by omega)
    rw [allD hx] at hal
    repeat (first | refine byW ?_ | (refine byV ?_; intro w hw))
    refine lAlloc ?_
    intro b6 w hw
    refine lStore ?_
    intro w hw
    have hw : Wd Γ (.blk b6 (.cells (enc x).toArray 56) :: .blk b1 (hwC H a1 n1 c1 a2 n2 c2 a3 n3 c3 a4 n4 c4 a5 n5 c5) :: S) w := hw
    repeat (first | refine byW ?_ | (refine byV ?_; intro w hw))
    refine W_cond rfl (fun h => ?_) (fun h => ?_)
    · have hz : linkRB x = false := bad_no (link_bad x) (show linkBad x = true from h)
      repeat (first | refine byW ?_ | (refine byV ?_; intro w hw))
      refine ⟨_, rfl, ret_b rfl ?_, hw.ds [0, 0]⟩
      rw [hal, hz]; rfl
    · have hz : linkRB x = true := bad_ok (link_bad x) (show linkBad x = false from h)
      rw [hz, Bool.true_and] at hal
      repeat (first | refine byW ?_ | (refine byV ?_; intro w hw))
      exact ⟨μ - 1, by omega, k + 1, by omega, ⟨rfl, rfl, trivial⟩, hal, hw.drop⟩
  have hkn : n3 ≤ k := by have := of_decide_eq_false h; omega
  clear h
  rw [allE (by omega)] at hal
  rw [hal, Bool.true_and]
  clear hk hρ
  repeat (first | refine byW ?_ | (refine byV ?_; intro w hw))
  refine W_loop (fun μ ρ w => ∃ (k : Nat), μ + k = n4 ∧ Has ρ [(1, .pointer (some ⟨b1, 0, none⟩)), (9, .int .i64 k)] ∧ H.Mems.all (memRB) = (H.Mems.drop k).all (memRB) ∧ Wd Γ (.blk b1 (hwC H a1 n1 c1 a2 n2 c2 a3 n3 c3 a4 n4 c4 a5 n5 c5) :: S) w) n4 ⟨0, by omega, ⟨rfl, rfl, trivial⟩, rfl, hw⟩ ?_
  clear hw hal
  rintro μ ρ w ⟨k, hk, hρ, hal, hw⟩
  rw [hρ.eq]
  repeat (first | refine byW ?_ | (refine byV ?_; intro w hw))
  refine W_cond rfl (fun h => ?_) (fun h => ?_)
  · have hkn : k < n4 := by have := of_decide_eq_true h; omega
    clear h
    obtain ⟨x, hx⟩ := get_lt (l := H.Mems) (k := k) (by omega)
    rw [allD hx] at hal
    repeat (first | refine byW ?_ | (refine byV ?_; intro w hw))
    refine lAlloc ?_
    intro b6 w hw
    refine lStore ?_
    intro w hw
    have hw : Wd Γ (.blk b6 (.cells (enc x).toArray 67) :: .blk b1 (hwC H a1 n1 c1 a2 n2 c2 a3 n3 c3 a4 n4 c4 a5 n5 c5) :: S) w := hw
    repeat (first | refine byW ?_ | (refine byV ?_; intro w hw))
    refine W_cond rfl (fun h => ?_) (fun h => ?_)
    · have hz : memRB x = false := bad_no (mem_bad x) (show memBad x = true from h)
      repeat (first | refine byW ?_ | (refine byV ?_; intro w hw))
      refine ⟨_, rfl, ret_b rfl ?_, hw.ds [0, 0]⟩
      rw [hal, hz]; rfl
    · have hz : memRB x = true := bad_ok (mem_bad x) (show memBad x = false from h)
      rw [hz, Bool.true_and] at hal
      repeat (first | refine byW ?_ | (refine byV ?_; intro w hw))
      exact ⟨μ - 1, by omega, k + 1, by omega, ⟨rfl, rfl, trivial⟩, hal, hw.drop⟩
  have hkn : n4 ≤ k := by have := of_decide_eq_false h; omega
  clear h
  rw [allE (by omega)] at hal
  rw [hal, Bool.true_and]
  clear hk hρ
  repeat (first | refine byW ?_ | (refine byV ?_; intro w hw))
  refine W_loop (fun μ ρ w => ∃ (k : Nat), μ + k = n5 ∧ Has ρ [(1, .pointer (some ⟨b1, 0, none⟩)), (11, .int .i64 k)] ∧ H.Devs.all (devRB) = (H.Devs.drop k).all (devRB) ∧ Wd Γ (.blk b1 (hwC H a1 n1 c1 a2 n2 c2 a3 n3 c3 a4 n4 c4 a5 n5 c5) :: S) w) n5 ⟨0, by omega, ⟨rfl, rfl, trivial⟩, rfl, hw⟩ ?_
  clear hw hal
  rintro μ ρ w ⟨k, hk, hρ, hal, hw⟩
  rw [hρ.eq]
  repeat (first | refine byW ?_ | (refine byV ?_; intro w hw))
  refine W_cond rfl (fun h => ?_) (fun h => ?_)
  · have hkn : k < n5 := by have := of_decide_eq_true h; omega
    clear h
    obtain ⟨x, hx⟩ := get_lt (l := H.Devs) (k := k) (by omega)
    rw [allD hx] at hal
    repeat (first | refine byW ?_ | (refine byV ?_; intro w hw))
    refine lAlloc ?_
    intro b6 w hw
    refine lStore ?_
    intro w hw
    have hw : Wd Γ (.blk b6 (.cells (enc x).toArray 69) :: .blk b1 (hwC H a1 n1 c1 a2 n2 c2 a3 n3 c3 a4 n4 c4 a5 n5 c5) :: S) w := hw
    repeat (first | refine byW ?_ | (refine byV ?_; intro w hw))
    refine W_cond rfl (fun h => ?_) (fun h => ?_)
    · have hz : devRB x = false := bad_no (dev_bad x) (show devBad x = true from h)
      repeat (first | refine byW ?_ | (refine byV ?_; intro w hw))
      refine ⟨_, rfl, ret_b rfl ?_, hw.ds [0, 0]⟩
      rw [hal, hz]; rfl
    · have hz : devRB x = true := bad_ok (dev_bad x) (show devBad x = false from h)
      rw [hz, Bool.true_and] at hal
      repeat (first | refine byW ?_ | (refine byV ?_; intro w hw))
      exact ⟨μ - 1, by omega, k + 1, by omega, ⟨rfl, rfl, trivial⟩, hal, hw.drop⟩
  have hkn : n5 ≤ k := by have := of_decide_eq_false h; omega
  clear h
  rw [allE (by omega)] at hal
  rw [hal]
  clear hk hρ
  repeat (first | refine byW ?_ | (refine byV ?_; intro w hw))
  exact ⟨_, rfl, rfl, hw.drop⟩
def memAR (m : MemT) : Bool := powB m.Size && decide (m.Base.tmod m.Size = 0)
theorem aligned_any {Γ : Gho} {u : Value} {H : HwT} [hh : HwR Γ u H] {S : List Res} {w : World} (hw : Wd Γ S w) :
    Calls Tryz.prog 50 #[u] w fun e w' => e = .returned (.bool (H.Mems.all memAR && H.Devs.all devAB)) ∧ Wd Γ S w' := by
  obtain ⟨a1, n1, c1, a2, n2, c2, a3, n3, c3, a4, n4, c4, a5, n5, c5, cs, rfl, hcs, hok, hsz, r1, r2, r3, r4, r5⟩ := hh.h
  obtain ⟨f1, f1', f1''⟩ := rep_facts r1
  obtain ⟨f2, f2', f2''⟩ := rep_facts r2
  obtain ⟨f3, f3', f3''⟩ := rep_facts r3
  obtain ⟨f4, f4', f4''⟩ := rep_facts r4
  obtain ⟨f5, f5', f5''⟩ := rep_facts r5
  simp only [List.length_map] at f1 f2 f3 f4 f5
  have hcl : cs.length = H.Caches.length := by rw [← hcs, List.length_map]
  refine calls_of_W Tryz.func50 rfl rfl ?_
  repeat (first | refine byW ?_ | (refine byV ?_; intro w hw))
  refine lBox ?_
  intro b1 w hw
  have hw : Wd Γ (.blk b1 (hwC H a1 n1 c1 a2 n2 c2 a3 n3 c3 a4 n4 c4 a5 n5 c5) :: S) w := hw
  repeat (first | refine byW ?_ | (refine byV ?_; intro w hw))
  refine W_loop (fun μ ρ w => ∃ (k : Nat), μ + k = n4 ∧ Has ρ [(1, .pointer (some ⟨b1, 0, none⟩)), (3, .int .i64 k)] ∧ H.Mems.all (memAR) = (H.Mems.drop k).all (memAR) ∧ Wd Γ (.blk b1 (hwC H a1 n1 c1 a2 n2 c2 a3 n3 c3 a4 n4 c4 a5 n5 c5) :: S) w) n4 ⟨0, by omega, ⟨rfl, rfl, trivial⟩, rfl, hw⟩ ?_
  clear hw
  rintro μ ρ w ⟨k, hk, hρ, hal, hw⟩
  rw [hρ.eq]
  repeat (first | refine byW ?_ | (refine byV ?_; intro w hw))
  refine W_cond rfl (fun h => ?_) (fun h => ?_)
  · have hkn : k < n4 := by have := of_decide_eq_true h; omega
    clear h
    obtain ⟨x, hx⟩ := get_lt (l := H.Mems) (k := k) (by omega)
    rw [allD hx] at hal
    repeat (first | refine byW ?_ | (refine byV ?_; intro w hw))
    refine lAlloc ?_
    intro b6 w hw
    refine lStore ?_
    intro w hw
    have hw : Wd Γ (.blk b6 (.cells (enc x).toArray 67) :: .blk b1 (hwC H a1 n1 c1 a2 n2 c2 a3 n3 c3 a4 n4 c4 a5 n5 c5) :: S) w := hw
    have hS : memAR x = (powB x.Size && decide (x.Base.tmod x.Size = 0)) := rfl
    have hPN : PC Tryz.prog 76 [.int .u64 x.Size] (.bool (powB x.Size)) := inferInstance
    cases h1 : powB x.Size with
    | false =>
      rw [h1] at hPN
      repeat (first | (first | refine W_seq ?_ | refine W_block ?_ | refine W_region ?_ | refine W_skip ?_ | refine W_ret ?_ | refine W_exit ?_) | ((first | apply L_bin | apply L_notop); first | (refine lT ?_ ?_; (first | exact rfl | exact decide_eq_true rfl | (simp; done))) | (refine lF ?_ ?_; (first | exact rfl | exact decide_eq_true rfl | (simp; done)))) | (first | refine L_nil ?_ | (apply L_plain; first | (apply L_go; first | refine lP ?_ | (refine lPg ?_; intro w hw)) | (apply L_mf; refine lMakeFunc ?_) | refine lY ?_) | (apply L_guarded; first | refine lGT ?_ (hct := rfl) | refine lGF ?_ (hct := rfl) | (apply L_go; first | refine lPG ?_ | (refine lPgG ?_; intro w hw)) | refine lG ?_)) | (refine lAlloc ?_; intro _ w hw) | (refine lBox ?_; intro _ w hw) | (refine lStore ?_; intro w hw))
      refine W_cond_true rfl ?_
      repeat (first | refine byW ?_ | (refine byV ?_; intro w hw))
      refine ⟨_, rfl, ret_b rfl ?_, hw.ds [0, 0]⟩
      rw [hal, hS, h1]; rfl
    | true =>
      rw [h1] at hPN
      have hpos : 0 < x.Size := by
        unfold powB at h1
        rw [Bool.and_eq_true, decide_eq_true_eq] at h1; exact h1.1
      cases hb1 : decide (x.Base.tmod x.Size ≠ 0) with
      | true =>
        have h3 : ¬ x.Base.tmod x.Size = 0 := of_decide_eq_true hb1
        repeat (first | (first | refine W_seq ?_ | refine W_block ?_ | refine W_region ?_ | refine W_skip ?_ | refine W_ret ?_ | refine W_exit ?_) | ((first | apply L_bin | apply L_notop); first | (refine lT ?_ ?_; (first | exact hb1 | exact hb2 | exact hb3 | exact hb4)) | (refine lF ?_ ?_; (first | exact hb1 | exact hb2 | exact hb3 | exact hb4))) | (first | refine L_nil ?_ | (apply L_plain; first | (apply L_go; first | refine lP ?_ | (refine lPg ?_; intro w hw)) | (apply L_mf; refine lMakeFunc ?_) | refine lY ?_) | (apply L_guarded; first | refine lGT ?_ (hct := rfl) | refine lGF ?_ (hct := rfl) | (apply L_go; first | refine lPG ?_ | (refine lPgG ?_; intro w hw)) | refine lG ?_)) | (refine lAlloc ?_; intro _ w hw) | (refine lBox ?_; intro _ w hw) | (refine lStore ?_; intro w hw))
        refine W_cond_true rfl ?_
        repeat (first | refine byW ?_ | (refine byV ?_; intro w hw))
        refine ⟨_, rfl, ret_b rfl ?_, hw.ds [0, 0]⟩
        rw [hal, hS, h1, decide_eq_false h3]; rfl
      | false =>
        have h3 : x.Base.tmod x.Size = 0 := Classical.byContradiction fun q => (of_decide_eq_false hb1) q
        rw [hS, h1, decide_eq_true h3] at hal
        have hal : H.Mems.all memAR = (H.Mems.drop (k + 1)).all memAR := hal
        repeat (first | (first | refine W_seq ?_ | refine W_block ?_ | refine W_region ?_ | refine W_skip ?_ | refine W_ret ?_ | refine W_exit ?_) | ((first | apply L_bin | apply L_notop); first | (refine lT ?_ ?_; (first | exact hb1 | exact hb2 | exact hb3 | exact hb4)) | (refine lF ?_ ?_; (first | exact hb1 | exact hb2 | exact hb3 | exact hb4))) | (first | refine L_nil ?_ | (apply L_plain; first | (apply L_go; first | refine lP ?_ | (refine lPg ?_; intro w hw)) | (apply L_mf; refine lMakeFunc ?_) | refine lY ?_) | (apply L_guarded; first | refine lGT ?_ (hct := rfl) | refine lGF ?_ (hct := rfl) | (apply L_go; first | refine lPG ?_ | (refine lPgG ?_; intro w hw)) | refine lG ?_)) | (refine lAlloc ?_; intro _ w hw) | (refine lBox ?_; intro _ w hw) | (refine lStore ?_; intro w hw))
        refine W_cond_false rfl ?_
        repeat (first | refine byW ?_ | (refine byV ?_; intro w hw))
        exact ⟨μ - 1, by omega, k + 1, by omega, ⟨rfl, rfl, trivial⟩, hal, hw.drop⟩
  have hkn : n4 ≤ k := by have := of_decide_eq_false h; omega
  clear h
  rw [allE (by omega)] at hal
  rw [hal, Bool.true_and]
  clear hk hρ
  repeat (first | refine byW ?_ | (refine byV ?_; intro w hw))
  refine W_loop (fun μ ρ w => ∃ (k : Nat), μ + k = n5 ∧ Has ρ [(1, .pointer (some ⟨b1, 0, none⟩)), (5, .int .i64 k)] ∧ H.Devs.all (devAB) = (H.Devs.drop k).all (devAB) ∧ Wd Γ (.blk b1 (hwC H a1 n1 c1 a2 n2 c2 a3 n3 c3 a4 n4 c4 a5 n5 c5) :: S) w) n5 ⟨0, by omega, ⟨rfl, rfl, trivial⟩, rfl, hw⟩ ?_
  clear hw hal
  rintro μ ρ w ⟨k, hk, hρ, hal, hw⟩
  rw [hρ.eq]
  repeat (first | refine byW ?_ | (refine byV ?_; intro w hw))
  refine W_cond rfl (fun h => ?_) (fun h => ?_)
  · have hkn : k < n5 := by have := of_decide_eq_true h; omega
    clear h
    obtain ⟨x, hx⟩ := get_lt (l := H.Devs) (k := k) (by omega)
    rw [allD hx] at hal
    repeat (first | refine byW ?_ | (refine byV ?_; intro w hw))
    refine lAlloc ?_
    intro b6 w hw
    refine lStore ?_
    intro w hw
    have hw : Wd Γ (.blk b6 (.cells (enc x).toArray 69) :: .blk b1 (hwC H a1 n1 c1 a2 n2 c2 a3 n3 c3 a4 n4 c4 a5 n5 c5) :: S) w := hw
    repeat (first | refine byW ?_ | (refine byV ?_; intro w hw))
    refine W_cond rfl (fun h => ?_) (fun h => ?_)
    · have h : (decide (x.Base.tmod 4096 ≠ 0) || decide (x.Size.tmod 4096 ≠ 0)) = true := h
      have hz : devAB x = false := by
        unfold devAB
        simp only [Bool.or_eq_true, decide_eq_true_eq] at h
        rw [Bool.and_eq_false_iff, decide_eq_false_iff_not, decide_eq_false_iff_not]; exact h
      repeat (first | refine byW ?_ | (refine byV ?_; intro w hw))
      refine ⟨_, rfl, ret_b rfl ?_, hw.ds [0, 0]⟩
      rw [hal, hz]; rfl
    · have h : (decide (x.Base.tmod 4096 ≠ 0) || decide (x.Size.tmod 4096 ≠ 0)) = false := h
      have hz : devAB x = true := by
        unfold devAB
        simp only [Bool.or_eq_false_iff, decide_eq_false_iff_not, Decidable.not_not] at h
        rw [Bool.and_eq_true, decide_eq_true_eq, decide_eq_true_eq]; exact h
      rw [hz, Bool.true_and] at hal
      repeat (first | refine byW ?_ | (refine byV ?_; intro w hw))
      exact ⟨μ - 1, by omega, k + 1, by omega, ⟨rfl, rfl, trivial⟩, hal, hw.drop⟩
  have hkn : n5 ≤ k := by have := of_decide_eq_false h; omega
  clear h
  rw [allE (by omega)] at hal
  rw [hal]
  clear hk hρ
  repeat (first | refine byW ?_ | (refine byV ?_; intro w hw))
  exact ⟨_, rfl, rfl, hw.drop⟩
end Go.Proofs.YteiijmclobggjaaGreat
end
/- The reference's Validate: alignment by bits; overlap. -/
section
open Go Mk
namespace Go.Proofs.YteiijmclobggjaaGreat
set_option maxHeartbeats 16000000
attribute [local irreducible] Calls
/-! ### powers of two -/
theorem pow_of_and : ∀ (n : Nat), 0 < n → n &&& (n - 1) = 0 → ∃ e, n = 2 ^ e := by
  intro n
  induction n using Nat.strongRecOn with
  | ind n ih =>
    intro h0 h
    have h1 : (n / 2) &&& ((n - 1) / 2) = 0 := by rw [← Nat.and_div_two, h]
    by_cases e : n % 2 = 0
    · have h2 : (n - 1) / 2 = n / 2 - 1 := by omega
      rw [h2] at h1
      obtain ⟨e1, he⟩ := ih (n / 2) (by omega) (by omega) h1
      exact ⟨e1 + 1, by rw [Nat.pow_succ, ← he]; omega⟩
    · have h2 : (n - 1) / 2 = n / 2 := by omega
      rw [h2, Nat.and_self] at h1
      exact ⟨0, by omega⟩
def u64I (n : Int) : Prop := 0 ≤ n ∧ n < 18446744073709551616
theorem bitsU {a b : Int} (ha : u64I a) (hb : u64I b) : bitsZ .and .u64 a b = ((a.toNat &&& b.toNat : Nat) : Int) := by
  unfold u64I at ha hb
  have h1 : (BitVec.ofInt 64 a).toNat = a.toNat := by rw [BitVec.toNat_ofInt]; omega
  have h2 : (BitVec.ofInt 64 b).toNat = b.toNat := by rw [BitVec.toNat_ofInt]; omega
  have h3 : (BitVec.ofInt 64 a &&& BitVec.ofInt 64 b).toNat = a.toNat &&& b.toNat := by rw [BitVec.toNat_and, h1, h2]
  have h4 : a.toNat &&& b.toNat ≤ a.toNat := Nat.and_le_left
  show IntKind.u64.wrap ((BitVec.ofInt 64 a &&& BitVec.ofInt 64 b).toNat : Nat) = _
  rw [h3]
  simp [IntKind.wrap, IntKind.bits, IntKind.signed]
  omega
theorem align_eq {b s : Int} (hb : u64I b) (hs : 4096 ≤ s ∧ s ≤ 1099511627776) :
    (powB s && decide (b.tmod s = 0)) = (decide (bitsZ .and .u64 s (IntKind.u64.wrap (s - 1)) = 0) && decide (bitsZ .and .u64 b (IntKind.u64.wrap (s - 1)) = 0)) := by
  have hw : IntKind.u64.wrap (s - 1) = s - 1 := by simp [IntKind.wrap, IntKind.bits, IntKind.signed]; omega
  have hs1 : u64I s := by unfold u64I; omega
  have hs2 : u64I (s - 1) := by unfold u64I; omega
  unfold powB
  rw [hw, bitsU hs1 hs2, bitsU hb hs2, decide_eq_true (show 0 < s by omega), Bool.true_and]
  by_cases e : ((s.toNat &&& (s - 1).toNat : Nat) : Int) = 0
  · rw [decide_eq_true e, Bool.true_and, Bool.true_and]
    have e0 : s.toNat &&& (s.toNat - 1) = 0 := by
      have : (s - 1).toNat = s.toNat - 1 := by omega
      rw [this] at e; omega
    obtain ⟨p, hp⟩ := pow_of_and s.toNat (by omega) e0
    have h1 : (s - 1).toNat = 2 ^ p - 1 := by omega
    rw [h1, Nat.and_two_pow_sub_one_eq_mod, ← hp]
    unfold u64I at hb
    rw [Int.tmod_eq_emod_of_nonneg hb.1]
    congr 1
    apply propext
    have h2 : b % s = ((b.toNat % s.toNat : Nat) : Int) := by
      rw [Int.natCast_emod]
      congr 1 <;> omega
    rw [h2]
  · rw [decide_eq_false e, Bool.false_and, Bool.false_and]
/-- The fields of memories that are not signed. -/
def MemWide (H : HwT) : Prop := ∀ x ∈ H.Mems, u64I x.Base
theorem align_ref {H : HwT} (hw : MemWide H) (hr : regionsRB H = true) : (H.Mems.all memAR && H.Devs.all devAB) = alignRB H := by
  have : H.Mems.all memAR = H.Mems.all memAB := by
    unfold regionsRB at hr
    simp only [Bool.and_eq_true, List.all_eq_true] at hr
    rw [Bool.eq_iff_iff, List.all_eq_true, List.all_eq_true]
    have key : ∀ x ∈ H.Mems, memAR x = memAB x := fun x hx => by
      have h1 := hr.1 x hx
      simp only [memRB, inSpaceB, Bool.and_eq_true, decide_eq_true_eq] at h1
      exact align_eq (hw x hx) (by omega)
    exact ⟨fun h x hx => by rw [← key x hx]; exact h x hx, fun h x hx => by rw [key x hx]; exact h x hx⟩
  unfold alignRB
  rw [this]
end Go.Proofs.YteiijmclobggjaaGreat
end
/- Calls of methods behind interface values. -/
section
open Go Mk
namespace Go.Proofs.YteiijmclobggjaaGreat

def methF (P : Program) (t : TypeId) (name : String) : Option (Nat × Bool) :=
  match P.info? t with
  | some i => match i.methods.find? (·.name == name) with
    | some m => if m.path.isEmpty then m.func else none
    | none => none
  | none => none
/-- The method of a pointer type: f takes the pointer. -/
class MetP (P : Program) (t : TypeId) (name : String) (f : outParam Nat) : Prop where
  h : methF P t name = some (f, true)
  e : ∃ u, P.underlying t = some (.pointer u)
/-- The method of a pointer type: f takes what is pointed to, of type u. -/
class MetV (P : Program) (t : TypeId) (name : String) (f : outParam Nat) (u : outParam TypeId) : Prop where
  h : methF P t name = some (f, false)
  e : P.underlying t = some (.pointer u)

section
variable {P : Program} {t u : TypeId} {name : String} {f : Nat} {w : World}
theorem methF_spec {b : Bool} (h : methF P t name = some (f, b)) : ∃ i m, P.info? t = some i ∧ i.methods.find? (·.name == name) = some m ∧ m.path = #[] ∧ m.func = some (f, b) := by
  unfold methF at h
  cases hi : P.info? t with
  | none => simp [hi] at h
  | some i =>
    simp only [hi] at h
    cases hm : i.methods.find? (·.name == name) with
    | none => simp [hm] at h
    | some m =>
      simp only [hm] at h
      by_cases hp : m.path.isEmpty = true
      · rw [if_pos hp] at h
        exact ⟨i, m, rfl, hm, by simpa using hp, h⟩
      · rw [if_neg hp] at h; cases h
theorem depth_succ : ∃ k, P.types.size + Made.depth = k + 1 := ⟨P.types.size + Made.depth - 1, by unfold Made.depth; omega⟩
theorem run_metP [hm : MetP P t name f] {v : Value} : (method (P.types.size + Made.depth) t v name).run P w = .ok (f, v) w := by
  obtain ⟨u, hu⟩ := hm.e
  obtain ⟨i, m, hi, hf, hp, hg⟩ := methF_spec hm.h
  obtain ⟨k, hk⟩ := depth_succ (P := P)
  rw [hk]
  unfold method
  simp only [Sem.run_bind, typeInfo]
  simp [hi, hf, hp, hg, follow, receiverAt, run_underlying hu, Place.get]
theorem run_wrapNil {T U : TypeId} {a : Addr} {s m : String} : (Builtin.ssaWrapNilChk_ #[T] U #[.pointer (some a), strVal s, strVal m]).run P w = .ok (.pointer (some a)) w := rfl
theorem run_metV [hm : MetV P t name f u] {a : Addr} {x : Value} (hl : (loadVar u a).run P w = .ok x w) : (method (P.types.size + Made.depth) t (.pointer (some a)) name).run P w = .ok (f, x) w := by
  obtain ⟨i, m, hi, hf, hp, hg⟩ := methF_spec hm.h
  obtain ⟨k, hk⟩ := depth_succ (P := P)
  rw [hk]
  unfold method
  simp only [Sem.run_bind, typeInfo]
  simp [hi, hf, hp, hg, follow, receiverAt, run_underlying hm.e, Place.get, run_wrapNil, asAddr, hl]

variable {n : Nat} {opa : Array Oper} {QQ : Exit → Fr → World → Prop} {ρ : Fr} {rest : List Oper} {K : Value → World → Prop}
variable {d : Option Tmp} {ty : TypeId} {pos : String} {es : Array Edge} {args : List Operand} {tys : Array TypeId} {vs : List Value} {r : Operand} {g : Option (Nat × Bool)}
theorem s_inv {v : Value} {x : Value} [FnOk P f] (hr : ev ρ r = .iface t v) (hm : (method (P.types.size + Made.depth) t v name).run P w = .ok (f, x) w) (ha : args.toArray.map (ev ρ) = vs.toArray) (hc : Calls P f (x :: vs).toArray w fun e w' => ∃ v, e = .returned v ∧ K v w') :
    Step P ⟨d, .call { callee := .invoke r name, args := args.toArray, argTypes := tys }, ty, pos, es, g⟩ ρ w K := by
  have hx : (#[x] ++ vs.toArray : Array Value) = (x :: vs).toArray := by simp
  have hr : (execOp (ev ρ) ⟨d, .call { callee := .invoke r name, args := args.toArray, argTypes := tys }, ty, pos, es, g⟩).run P w = .ok (.enter f (x :: vs).toArray) w := by
    have hq : ∀ l : Array Value, (#[Value.iface t v] ++ l)[0]? = some (Value.iface t v) := fun l => by rw [Array.getElem?_append_left (by simp)]; rfl
    have hq2 : ∀ l : Array Value, (#[Value.iface t v] ++ l).extract 1 (#[Value.iface t v] ++ l).size = l := fun l => by
      apply Array.ext' ; simp
    simp only [execOp, resolve, ha, hr, Sem.run_bind, Sem.run_pure, Result.andThen_ok, invoke]
    simp only [hq, hq2, callMethod, Sem.run_bind, run_program, Result.andThen_ok, hm]
    simp only [hx]
    simp [run_callFunc]
  unfold Step
  rw [hr]
  exact hc
theorem lInv {v : Value} [MetP P t name f] [FnOk P f] (hc : Calls P f (v :: vs).toArray w fun e w' => ∃ v, e = .returned v ∧ L P n opa QQ rest (putO ρ d v) w') (hr : ev ρ r = .iface t v := by exact rfl) (ha : EvL ρ args vs := by exact byEV) (hd : okDst n d = true := by exact rfl) :
    L P n opa QQ (⟨d, .call { callee := .invoke r name, args := args.toArray, argTypes := tys }, ty, pos, es, none⟩ :: rest) ρ w := L_step rfl hd (s_inv hr run_metP ha.eqA hc)
theorem lInvV {a : Addr} {x : Value} [MetV P t name f u] [FnOk P f] (hl : (loadVar u a).run P w = .ok x w) (hc : Calls P f (x :: vs).toArray w fun e w' => ∃ v, e = .returned v ∧ L P n opa QQ rest (putO ρ d v) w') (hr : ev ρ r = .iface t (.pointer (some a)) := by exact rfl) (ha : EvL ρ args vs := by exact byEV) (hd : okDst n d = true := by exact rfl) :
    L P n opa QQ (⟨d, .call { callee := .invoke r name, args := args.toArray, argTypes := tys }, ty, pos, es, none⟩ :: rest) ρ w := L_step rfl hd (s_inv hr (run_metV hl) ha.eqA hc)
/-- A variable of one cell, read. -/
theorem loadVar_cell {b : Nat} {o : Nat} {x : Value} {Γ : Gho} {S : List Res} {i : Nat} {cs : Array Value} {E : TypeId} [hs : TS P u] (hw : Wd Γ S w) (hi : S[i]? = some (.blk b (.cells cs E))) (hc : cs[o]? = some x) : (loadVar u ⟨b, o, none⟩).run P w = .ok x w := by
  have := cell_of (hw.at_blk hi) hc
  simp [loadVar, go_sem, scal_isAgg hs.h, this]

/-- A type assertion to a struct type. -/
theorem y_assert {T U : TypeId} {v : Value} {fs : Array Field} {xx : Operand} (hu : P.underlying U = some (.struct fs)) (hx : ev ρ xx = .iface U v) : Mk.Yields P ⟨d, .typeAssert xx T U false, ty, pos, es, g⟩ ρ w v := by
  unfold Mk.Yields
  simp [execOp, hx, Instr.typeAssert, run_underlying hu, Sem.run_bind, Sem.run_pure, Result.andThen]
/-- The same in a region that is stepped in its order. -/
theorem lInvP {Γ : Gho} {S Y : List Res} {a : Addr} {x v : Value} [MetV P t name f u] [FnOk P f] (hp : PS P Γ S f (x :: vs) v) (hl : (loadVar u a).run P w = .ok x w) (h : ∀ w', Wd Γ (S ++ Y) w' → L P n opa QQ rest (putO ρ d v) w') (hw : Wd Γ (S ++ Y) w := by exact hw) (hd : okDst n d = true := by exact rfl) (hr : ev ρ r = .iface t (.pointer (some a)) := by exact rfl) (ha : EvL ρ args vs := by exact byEV) :
    L P n opa QQ (⟨d, .call { callee := .invoke r name, args := args.toArray, argTypes := tys }, ty, pos, es, none⟩ :: rest) ρ w :=
  L_step rfl hd (s_inv hr (run_metV hl) ha.eqA ((hp.h Y w hw).mono fun _ w' ⟨h1, h2⟩ => ⟨v, h1, h w' h2⟩))
theorem lInvPG {Γ : Gho} {S Y : List Res} {a : Addr} {x v : Value} {j dj : Nat} {want c : Bool} [MetV P t name f u] [FnOk P f] (hp : c = true → PS P Γ S f (x :: vs) v) (hl : (loadVar u a).run P w = .ok x w) (h : ∀ w', Wd Γ (S ++ Y) w' → L P n opa QQ rest (putO ρ d (gv c v)) w') (hw : Wd Γ (S ++ Y) w := by exact hw) (hj : (opa[j]?).bind (·.dst) = some dj := by exact rfl) (hjn : okDst n (some dj) = true := by exact rfl) (hc : GuardIs (ρ dj) want c := by exact byGC) (hd : okDst n d = true := by exact rfl) (hr : c = true → ev ρ r = .iface t (.pointer (some a)) := by intro hc; exact byOP) (ha : c = true → EvL ρ args vs := by intro hc; exact byEVG) :
    L P n opa QQ (⟨d, .call { callee := .invoke r name, args := args.toArray, argTypes := tys }, ty, pos, es, some (j, want)⟩ :: rest) ρ w :=
  lGC hj hjn hd hc (fun hct => lInvP (hp hct) hl (fun w' hw' => by have := h w' hw'; rwa [gvT hct rfl] at this) hw hd (hr hct) (ha hct)) (fun hcf => by have := h w hw; rwa [show gv c v = undef from by rw [hcf]; unfold gv; rfl] at this)
def concT (P : Program) (T : TypeId) : Bool := match P.underlying T with
  | some (.interface _) => false
  | some _ => true
  | none => false
/-- A type that is no interface. -/
class TCo (P : Program) (T : TypeId) : Prop where h : concT P T = true
theorem y_mkI {T : TypeId} {v : Value} {xx : Operand} [hc : TCo P T] (hx : ev ρ xx = v) : Mk.Yields P ⟨d, .makeInterface T xx, ty, pos, es, g⟩ ρ w (.iface T v) := by
  have h := hc.h
  unfold concT at h
  unfold Mk.Yields
  cases hu : P.underlying T with
  | none => simp [hu] at h
  | some t =>
    cases t <;> first | (simp [hu] at h; done) | simp [execOp, hx, Instr.makeInterface, run_underlying hu, Sem.run_bind, Sem.run_pure, Result.andThen]
end
end Go.Proofs.YteiijmclobggjaaGreat
end
/- Heaps as lists: what sifting up and down does. -/
section
namespace Go.Proofs.YteiijmclobggjaaGreat

abbrev Pl := Int × Int
def hk (l : List Pl) (i : Nat) : Int := (l.getD i (0, 0)).2
theorem hk_of {l : List Pl} {i : Nat} {x : Pl} (h : l[i]? = some x) : hk l i = x.2 := by unfold hk; rw [List.getD_eq_getElem?_getD, h]; rfl
def swp (l : List Pl) (i j : Nat) : List Pl := (l.set i (l.getD j (0, 0))).set j (l.getD i (0, 0))
theorem swp_len (l : List Pl) (i j : Nat) : (swp l i j).length = l.length := by simp [swp]
theorem swp_get {l : List Pl} {i j : Nat} (hi : i < l.length) (hj : j < l.length) (k : Nat) : (swp l i j)[k]? = if k = j then l[i]? else if k = i then l[j]? else l[k]? := by
  unfold swp
  rw [List.getElem?_set]
  by_cases h1 : j = k
  · subst h1
    rw [if_pos rfl, if_pos (by simpa using hj), if_pos rfl]
    rw [List.getD_eq_getElem?_getD, List.getElem?_eq_getElem hi]; rfl
  · rw [if_neg h1, if_neg (Ne.symm h1), List.getElem?_set]
    by_cases h2 : i = k
    · subst h2
      rw [if_pos rfl, if_pos hi, if_pos rfl, List.getD_eq_getElem?_getD, List.getElem?_eq_getElem hj]; rfl
    · rw [if_neg h2, if_neg (Ne.symm h2)]
theorem swp_hk {l : List Pl} {i j : Nat} (hi : i < l.length) (hj : j < l.length) (k : Nat) : hk (swp l i j) k = if k = j then hk l i else if k = i then hk l j else hk l k := by
  unfold hk
  simp only [List.getD_eq_getElem?_getD, swp_get hi hj]
  split
  · rfl
  · split <;> rfl
theorem swp_perm {l : List Pl} {i j : Nat} (hi : i < l.length) (hj : j < l.length) : (swp l i j).Perm l := by
  rw [List.perm_iff_count]
  intro a
  have e1 : l.getD i (0, 0) = l[i] := by rw [List.getD_eq_getElem?_getD, List.getElem?_eq_getElem hi]; rfl
  have e2 : l.getD j (0, 0) = l[j] := by rw [List.getD_eq_getElem?_getD, List.getElem?_eq_getElem hj]; rfl
  unfold swp
  rw [e1, e2]
  by_cases e : i = j
  · subst e
    rw [List.set_set]
    simp
  · rw [List.count_set (by simpa using hj), List.count_set hi]
    rw [List.getElem_set_ne e]
    have h1 : (if l[i] == a then 1 else 0) ≤ l.count a := by
      split
      · rename_i h; exact List.one_le_count_iff.2 (by rw [← eq_of_beq h]; exact List.getElem_mem ..)
      · omega
    have h2 : (if l[j] == a then 1 else 0) ≤ l.count a := by
      split
      · rename_i h; exact List.one_le_count_iff.2 (by rw [← eq_of_beq h]; exact List.getElem_mem ..)
      · omega
    omega

def HeapN (l : List Pl) (n : Nat) : Prop := ∀ k, 0 < k → k < n → hk l ((k - 1) / 2) ≤ hk l k
def UpL (l : List Pl) (j : Nat) : Prop := (∀ k, 0 < k → k < l.length → k ≠ j → hk l ((k - 1) / 2) ≤ hk l k) ∧ (0 < j → ∀ k, 0 < k → k < l.length → (k - 1) / 2 = j → hk l ((j - 1) / 2) ≤ hk l k)
def DownL (l : List Pl) (i n : Nat) : Prop := (∀ k, 0 < k → k < n → (k - 1) / 2 ≠ i → hk l ((k - 1) / 2) ≤ hk l k) ∧ (0 < i → ∀ k, 0 < k → k < n → (k - 1) / 2 = i → hk l ((i - 1) / 2) ≤ hk l k)

theorem up_step {l : List Pl} {j : Nat} (h : UpL l j) (h0 : 0 < j) (hj : j < l.length) (hlt : hk l j < hk l ((j - 1) / 2)) : UpL (swp l ((j - 1) / 2) j) ((j - 1) / 2) := by
  have hi : (j - 1) / 2 < l.length := by omega
  refine ⟨fun k k0 kn ki => ?_, fun i0 k k0 kn kp => ?_⟩
  · rw [swp_len] at kn
    rw [swp_hk hi hj, swp_hk hi hj]
    by_cases e : k = j
    · subst e
      rw [if_neg (by omega), if_pos rfl, if_pos rfl]; omega
    · rw [if_neg e, if_neg ki]
      have hd := h.1 k k0 kn e
      by_cases e2 : (k - 1) / 2 = j
      · rw [if_pos e2]; exact h.2 h0 k k0 kn e2
      · rw [if_neg e2]
        by_cases e3 : (k - 1) / 2 = (j - 1) / 2
        · rw [if_pos e3]; rw [e3] at hd; omega
        · rw [if_neg e3]; exact hd
  · rw [swp_len] at kn
    rw [swp_hk hi hj, swp_hk hi hj]
    rw [if_neg (by omega), if_neg (by omega)]
    have hd := h.1 _ i0 hi (by omega)
    by_cases e : k = j
    · rw [if_pos e]; exact hd
    · rw [if_neg e, if_neg (by omega)]
      have := h.1 k k0 kn e
      rw [kp] at this
      omega
theorem up_stop {l : List Pl} {j : Nat} (h : UpL l j) (hs : j = 0 ∨ hk l ((j - 1) / 2) ≤ hk l j) : HeapN l l.length := fun k k0 kn => by
  by_cases e : k = j
  · subst e; exact hs.resolve_left (by omega)
  · exact h.1 k k0 kn e
theorem up_init {l : List Pl} {x : Pl} (h : HeapN l l.length) : UpL (l ++ [x]) l.length := by
  have hq : ∀ k, k < l.length → hk (l ++ [x]) k = hk l k := fun k hk' => by
    unfold hk; rw [List.getD_eq_getElem?_getD, List.getD_eq_getElem?_getD, List.getElem?_append_left hk']
  refine ⟨fun k k0 kn ki => ?_, fun i0 k k0 kn kp => ?_⟩
  · simp only [List.length_append, List.length_singleton] at kn
    rw [hq k (by omega), hq _ (by omega)]; exact h k k0 (by omega)
  · simp only [List.length_append, List.length_singleton] at kn; omega

theorem down_step {l : List Pl} {i j n : Nat} (h : DownL l i n) (hn : n ≤ l.length) (hj : j < n) (h0 : 0 < j) (hp : (j - 1) / 2 = i) (hlt : hk l j < hk l i) (hmin : ∀ k, 0 < k → k < n → (k - 1) / 2 = i → hk l j ≤ hk l k) : DownL (swp l i j) j n := by
  have hi' : i < l.length := by omega
  have hj' : j < l.length := by omega
  refine ⟨fun k k0 kn kp => ?_, fun _ k k0 kn kp => ?_⟩
  · rw [swp_hk hi' hj', swp_hk hi' hj', if_neg kp]
    by_cases e : (k - 1) / 2 = i
    · rw [if_pos e]
      by_cases e2 : k = j
      · rw [if_pos e2]; omega
      · rw [if_neg e2, if_neg (by omega)]; exact hmin k k0 kn e
    · rw [if_neg e, if_neg (fun e2 => e (by rw [e2]; exact hp))]
      by_cases e2 : k = i
      · rw [if_pos e2]
        subst e2
        exact h.2 k0 j h0 hj hp
      · rw [if_neg e2]; exact h.1 k k0 kn e
  · rw [swp_hk hi' hj', swp_hk hi' hj', hp, if_neg (by omega), if_pos rfl, if_neg (by omega), if_neg (by omega)]
    have := h.1 k k0 kn (by omega)
    rw [kp] at this; exact this
theorem down_stop {l : List Pl} {i n : Nat} (h : DownL l i n) (hs : ∀ k, 0 < k → k < n → (k - 1) / 2 = i → hk l i ≤ hk l k) : HeapN l n := fun k k0 kn => by
  by_cases e : (k - 1) / 2 = i
  · rw [e]; exact hs k k0 kn e
  · exact h.1 k k0 kn e
theorem down_init {l : List Pl} {n : Nat} (h : HeapN l l.length) (hn : l.length = n + 1) : DownL (swp l 0 n) 0 n := by
  refine ⟨fun k k0 kn kp => ?_, fun h0 => absurd h0 (by omega)⟩
  rw [swp_hk (by omega) (by omega), swp_hk (by omega) (by omega), if_neg (by omega), if_neg kp, if_neg (by omega), if_neg (by omega)]
  exact h k k0 (by omega)
theorem heap_root {l : List Pl} {n : Nat} (h : HeapN l n) : ∀ k, k < n → hk l 0 ≤ hk l k := by
  intro k
  induction k using Nat.strongRecOn with
  | ind k ih =>
    intro hk'
    by_cases e : k = 0
    · subst e; exact Int.le_refl _
    · have := h k (by omega) hk'
      have := ih ((k - 1) / 2) (by omega) (by omega)
      omega
theorem heap_take {l : List Pl} {n : Nat} (h : HeapN l n) (hn : n ≤ l.length) : HeapN (l.take n) (l.take n).length := fun k k0 kn => by
  simp only [List.length_take] at kn
  have hq : ∀ m, m < n → hk (l.take n) m = hk l m := fun m hm => by
    unfold hk; rw [List.getD_eq_getElem?_getD, List.getD_eq_getElem?_getD, List.getElem?_take_of_lt hm]
  rw [hq k (by omega), hq _ (by omega)]
  exact h k k0 (by omega)
theorem heap_min {l : List Pl} {x : Pl} (h : HeapN l l.length) (hx : l[0]? = some x) : ∀ y ∈ l, x.2 ≤ y.2 := fun y hy => by
  obtain ⟨k, hk2⟩ := List.mem_iff_getElem?.1 hy
  have hk1 := (List.getElem?_eq_some_iff.1 hk2).1
  have := heap_root h k hk1
  rw [hk_of hx, hk_of hk2] at this
  exact this
theorem perm_take {l L : List Pl} {n : Nat} {x : Pl} (hp : L.Perm l) (hn : L.length = n + 1) (hx : L[n]? = some x) : (x :: L.take n).Perm l := by
  have h1 : L.take n ++ [x] = L := by
    have := List.take_append_drop n L
    obtain ⟨hlt, he⟩ := List.getElem?_eq_some_iff.1 hx
    rw [List.drop_eq_getElem_cons hlt, he, List.drop_eq_nil_of_le (by omega)] at this
    exact this
  refine (List.Perm.trans ?_ hp)
  have h2 : (x :: L.take n).Perm (L.take n ++ [x]) := List.perm_append_comm (l₁ := [x])
  rw [h1] at h2
  exact h2
end Go.Proofs.YteiijmclobggjaaGreat
end
/- The queue of places: container/heap over *places. -/
section
open Go Mk
namespace Go.Proofs.YteiijmclobggjaaGreat
set_option maxHeartbeats 4000000
attribute [local irreducible] Calls
instance : MetP Tryz.prog 114 "multikernel/route.add" 139 := ⟨by kernel_rfl, ⟨_, TPtr.h⟩⟩
instance : MetP Tryz.prog 114 "multikernel/route.take" 141 := ⟨by kernel_rfl, ⟨_, TPtr.h⟩⟩
instance : MetP Tryz.prog 114 "multikernel/route.empty" 140 := ⟨by kernel_rfl, ⟨_, TPtr.h⟩⟩
instance : MetP Tryz.prog 114 "Push" 151 := ⟨by kernel_rfl, ⟨_, TPtr.h⟩⟩
instance : MetP Tryz.prog 114 "Pop" 150 := ⟨by kernel_rfl, ⟨_, TPtr.h⟩⟩
instance : MetV Tryz.prog 114 "Len" 138 115 := ⟨by kernel_rfl, TPtr.h⟩
instance : MetV Tryz.prog 114 "Less" 146 115 := ⟨by kernel_rfl, TPtr.h⟩
instance : MetV Tryz.prog 114 "Swap" 147 115 := ⟨by kernel_rfl, TPtr.h⟩

instance : TCo Tryz.prog 114 := ⟨by kernel_rfl⟩
instance : TCo Tryz.prog 109 := ⟨by kernel_rfl⟩
def plV (p : Pl) : List Value := [.int .i64 p.1, .int .i64 p.2]
abbrev hpO (a : Option Addr) (n c : Nat) (xs : List Pl) : Res := .own (.slice a n c) 109 2 (xs.map plV)
abbrev hpB (b : Nat) (v : Value) : Res := .blk b (.cells #[v] 115)
abbrev hpI (b : Nat) : Value := .iface 114 (.pointer (some ⟨b, 0, none⟩))
theorem pl_get {xs : List Pl} {k : Nat} {x : Pl} (h : xs[k]? = some x) : (xs.map plV)[k]? = some (plV x) := by rw [List.getElem?_map, h]; rfl

theorem len_any {Γ : Gho} {S : List Res} {w : World} {a : Option Addr} {n c : Nat} (hw : Wd Γ S w) :
    Calls Tryz.prog 138 #[.slice a n c] w fun e w' => e = .returned (.int .i64 n) ∧ Wd Γ S w' := by
  refine calls_of_W Tryz.func138 rfl rfl ?_
  repeat (first | refine byW ?_ | (refine byV ?_; intro w hw))
  exact ⟨_, rfl, rfl, hw⟩

theorem less_any {Γ : Gho} {S : List Res} {w : World} {a : Option Addr} {n c : Nat} {xs : List Pl} {i j : Nat} (hi : i < xs.length) (hj : j < xs.length) (hw : Wd Γ (hpO a n c xs :: S) w) :
    Calls Tryz.prog 146 #[.slice a n c, .int .i64 i, .int .i64 j] w fun e w' => e = .returned (.bool (decide (hk xs i < hk xs j))) ∧ Wd Γ (hpO a n c xs :: S) w' := by
  obtain ⟨a', n', c', e, hn, hnc, -⟩ := hw.own_shape (i := 0) rfl
  cases e
  simp only [List.length_map] at hn
  obtain ⟨x, hx⟩ := get_lt (l := xs) (k := i) (by omega)
  obtain ⟨y, hy⟩ := get_lt (l := xs) (k := j) (by omega)
  have hx' := pl_get hx
  have hy' := pl_get hy
  rw [hk_of hx, hk_of hy]
  refine calls_of_W Tryz.func146 rfl rfl ?_
  repeat (first | refine byW ?_ | (refine byV ?_; intro w hw))
  refine W_quiet (by kernel_rfl) (by kernel_rfl) hw ?_
  repeat (first | refine Q_nil ?_ | (apply Q_plain; first | (apply Q_go; first | refine qP ?_ | refine qPg ?_) | refine qY ?_) | (apply Q_guarded; first | (apply Q_go; first | refine qPG ?_ | refine qPgG ?_) | refine qG ?_))
  intro w hw
  repeat (first | refine byW ?_ | (refine byV ?_; intro w hw))
  exact ⟨_, rfl, rfl, hw⟩

theorem swap_any {Γ : Gho} {S : List Res} {w : World} {a : Option Addr} {n c : Nat} {xs : List Pl} {i j : Nat} (hi : i < xs.length) (hj : j < xs.length) (hw : Wd Γ (hpO a n c xs :: S) w) :
    Calls Tryz.prog 147 #[.slice a n c, .int .i64 i, .int .i64 j] w fun e w' => e = .returned (.tuple #[]) ∧ Wd Γ (hpO a n c (swp xs i j) :: S) w' := by
  obtain ⟨a', n', c', e, hn, hnc, -⟩ := hw.own_shape (i := 0) rfl
  cases e
  simp only [List.length_map] at hn
  obtain ⟨x, hx⟩ := get_lt (l := xs) (k := i) (by omega)
  obtain ⟨y, hy⟩ := get_lt (l := xs) (k := j) (by omega)
  have hx' := pl_get hx
  have hy' := pl_get hy
  have hsw : swp xs i j = (xs.set i y).set j x := by unfold swp; rw [List.getD_eq_getElem?_getD, hy, List.getD_eq_getElem?_getD, hx]; rfl
  refine calls_of_W Tryz.func147 rfl rfl ?_
  repeat (first | refine byW ?_ | (refine byV ?_; intro w hw))
  refine W_mix1 [] _ [[],[],[],[],[],[],[],[],[],[],[],[],[],[0],[],[0]] [[],[],[],[],[],[],[0],[0],[],[],[0],[0],[0],[0],[0],[0]] hw ?_
  repeat (first | refine mY ?_ | refine mP ?_ | refine mEndAt ?_ | refine mEnd0 ?_ | refine mEnd ?_)
  refine mStoreE (k := i) (r := plV y) ?_
  repeat (first | refine mY ?_ | refine mP ?_ | refine mEndAt ?_ | refine mEnd0 ?_ | refine mEnd ?_)
  refine mStoreE (k := j) (r := plV x) ?_
  repeat (first | refine mY ?_ | refine mP ?_ | refine mEndAt ?_ | refine mEnd0 ?_ | refine mEnd ?_)
  intro w hw
  have hw := Wd.left (S := Res.own _ _ _ _ :: _) hw
  have hw : Wd Γ (.own (.slice a n c) 109 2 (((xs.map plV).set i (plV y)).set j (plV x)) :: S) w := hw
  rw [← List.map_set, ← List.map_set, ← hsw] at hw
  exact ⟨_, rfl, rfl, hw⟩

theorem push_any {Γ : Gho} {S : List Res} {w : World} {b : Nat} {v : Value} {xs : List Pl} {x : Pl} (hN : xs.length ≤ 1000000) (hw : Wd Γ (hpB b v :: .own v 109 2 (xs.map plV) :: S) w) :
    Calls Tryz.prog 151 #[.pointer (some ⟨b, 0, none⟩), .iface 109 (.agg (plV x).toArray)] w fun e w' => e = .returned (.tuple #[]) ∧ ∃ v', Wd Γ (hpB b v' :: .own v' 109 2 ((xs ++ [x]).map plV) :: S) w' := by
  obtain ⟨a, n, c, rfl, hn, hnc, -⟩ := hw.own_shape (i := 1) rfl
  simp only [List.length_map] at hn
  refine calls_of_W Tryz.func151 rfl rfl ?_
  repeat (first | refine byW ?_ | (refine byV ?_; intro w hw))
  refine W_mix2 [] _ [[],[],[],[],[],[],[1],[0],[],[0]] [[],[],[],[0],[],[],[1],[0,1],[],[0]] [[11], [10]] hw ?_
  repeat (first | refine mY ?_ | refine mP ?_ | refine mEndAt ?_ | refine mEnd0 ?_ | refine mEnd ?_)
  refine mY (v := .agg (plV x).toArray) ?_ (hy := fun Y w g hw => y_assert Tryz.underlying109 rfl)
  repeat (first | refine mY ?_ | refine mP ?_ | refine mEndAt ?_ | refine mEnd0 ?_ | refine mEnd ?_)
  refine mBuild [plV x] ?_
  refine mApp ?_
  repeat (first | refine mY ?_ | refine mP ?_ | refine mEndAt ?_ | refine mEnd0 ?_ | refine mEnd ?_)
  refine mStoreV ?_
  refine mEnd fun w g hw => ?_
  have hw := Wd.dropEnd hw
  have hw : Wd Γ (hpB b (g 11) :: .own (g 11) 109 2 (xs.map plV ++ [plV x]) :: S) w := hw
  rw [show xs.map plV ++ [plV x] = (xs ++ [x]).map plV from by simp] at hw
  exact ⟨_, rfl, rfl, _, hw⟩

theorem hp_load' {Γ : Gho} {S : List Res} {w : World} {b : Nat} {v : Value} (hw : Wd Γ (hpB b v :: S) w) : (loadVar 115 ⟨b, 0, none⟩).run Tryz.prog w = .ok v w :=
  loadVar_cell (i := 0) hw rfl rfl
theorem ps_less {Γ : Gho} {b : Nat} {a : Option Addr} {n c : Nat} {xs : List Pl} {i j : Nat} (hi : i < xs.length) (hj : j < xs.length) :
    PS Tryz.prog Γ [hpB b (.slice a n c), hpO a n c xs] 146 [.slice a n c, .int .i64 i, .int .i64 j] (.bool (decide (hk xs i < hk xs j))) :=
  ⟨fun Y w hw => (less_any hi hj (S := hpB b (.slice a n c) :: Y) (Wd.ps [1] hw)).mono fun e w' ⟨h1, h2⟩ => ⟨h1, Wd.ps [1] h2⟩⟩

theorem half_par {j : Nat} (h : j ≤ 1000000) : IntKind.i64.wrap (((j : Int) - 1).tdiv 2) = (((j - 1) / 2 : Nat) : Int) := by
  by_cases e : j = 0
  · subst e; rfl
  · obtain ⟨k, rfl⟩ : ∃ k, j = k + 1 := ⟨j - 1, by omega⟩
    rw [show ((k + 1 : Nat) : Int) - 1 = (k : Int) from by omega, Nat.add_sub_cancel, Int.tdiv_eq_ediv_of_nonneg (by omega)]
    rw [show (k : Int) / 2 = ((k / 2 : Nat) : Int) from by omega]
    exact wrap_i64 (by omega) (by omega)
/-- Sifting up. -/
theorem up_any {Γ : Gho} {S : List Res} {w : World} {b : Nat} {a : Option Addr} {n c : Nat} {xs : List Pl} {j : Nat} (hN : xs.length ≤ 1000000) (hj : j < xs.length) (hu : UpL xs j) (hw : Wd Γ (hpB b (.slice a n c) :: hpO a n c xs :: S) w) :
    Calls Tryz.prog 144 #[hpI b, .int .i64 j] w fun e w' => e = .returned (.tuple #[]) ∧ ∃ ys, ys.Perm xs ∧ HeapN ys ys.length ∧ Wd Γ (hpB b (.slice a n c) :: hpO a n c ys :: S) w' := by
  refine calls_of_W Tryz.func144 rfl rfl ?_
  repeat (first | refine byW ?_ | (refine byV ?_; intro w hw))
  refine W_loop (fun μ ρ w => ∃ (ys : List Pl), μ < ys.length ∧ ys.Perm xs ∧ UpL ys μ ∧ Has ρ [(0, hpI b), (1, .int .i64 μ)] ∧ Wd Γ (hpB b (.slice a n c) :: hpO a n c ys :: S) w) j ⟨xs, hj, .refl _, hu, ⟨rfl, rfl, trivial⟩, hw⟩ ?_
  clear hw hu hj
  rintro j ρ w ⟨ys, hj, hp, hu, hρ, hw⟩
  have hl := hp.length_eq
  rw [hρ.eq]
  clear hρ
  refine W_block ?_
  refine W_cut (fun ρ w => Has ρ [(0, hpI b), (1, .int .i64 j), (4, .int .i64 ((j - 1) / 2 : Nat))] ∧ Wd Γ (hpB b (.slice a n c) :: hpO a n c ys :: S) w) ?_ ?_
  · repeat (first | refine byW ?_ | (refine byV ?_; intro w hw))
    exact ⟨⟨rfl, rfl, congrArg (Value.int .i64) (half_par (by omega)), trivial⟩, hw⟩
  clear hw
  rintro ρ w ⟨hρ, hw⟩
  rw [hρ.eq]
  clear hρ
  repeat (first | refine byW ?_ | (refine byV ?_; intro w hw))
  refine lInvPG (fun _ => ps_less (j := (j - 1) / 2) hj (by omega)) (hp_load' hw) ?_
  intro w hw
  repeat (first | refine byW ?_ | (refine byV ?_; intro w hw))
  refine W_cond rfl (fun h => ?_) (fun h => ?_)
  · have h : (decide (((((j - 1) / 2 : Nat)) : Int) = j) || !decide (hk ys j < hk ys ((j - 1) / 2))) = true := h
    have hs : j = 0 ∨ hk ys ((j - 1) / 2) ≤ hk ys j := by
      rcases Bool.or_eq_true_iff.1 h with h | h
      · have := of_decide_eq_true h; omega
      · have : ¬ hk ys j < hk ys ((j - 1) / 2) := by simpa using h
        omega
    have hw : Wd Γ (hpB b (.slice a n c) :: hpO a n c ys :: S) w := hw
    repeat (first | refine byW ?_ | (refine byV ?_; intro w hw))
    exact ⟨_, rfl, rfl, ys, hp, up_stop hu hs, hw⟩
  · have h : (decide (((((j - 1) / 2 : Nat)) : Int) = j) || !decide (hk ys j < hk ys ((j - 1) / 2))) = false := h
    obtain ⟨h1, h2⟩ := Bool.or_eq_false_iff.1 h
    have h1 := of_decide_eq_false h1
    have h2 : hk ys j < hk ys ((j - 1) / 2) := by simpa using h2
    have hw : Wd Γ (hpB b (.slice a n c) :: hpO a n c ys :: S) w := hw
    repeat (first | refine byW ?_ | (refine byV ?_; intro w hw))
    refine lInvV (hp_load' hw) ((swap_any (i := (j - 1) / 2) (j := j) (by omega) hj (Wd.ps [1] hw)).mono fun e w hh => ?_)
    obtain ⟨rfl, hw⟩ := hh
    refine ⟨_, rfl, ?_⟩
    have hw : Wd Γ (hpB b (.slice a n c) :: hpO a n c (swp ys ((j - 1) / 2) j) :: S) w := Wd.ps [1] hw
    repeat (first | refine byW ?_ | (refine byV ?_; intro w hw))
    exact ⟨(j - 1) / 2, by omega, swp ys ((j - 1) / 2) j, by rw [swp_len]; omega, (swp_perm (by omega) hj).trans hp, up_step hu (by omega) hj h2, ⟨rfl, rfl, trivial⟩, hw⟩

/-- Sifting down from the root. -/
theorem down_any {Γ : Gho} {S : List Res} {w : World} {b : Nat} {a : Option Addr} {n c : Nat} {xs : List Pl} {m : Nat} (hN : xs.length ≤ 1000000) (hm : m + 1 = xs.length) (hu : DownL xs 0 m) (hw : Wd Γ (hpB b (.slice a n c) :: hpO a n c xs :: S) w) :
    Calls Tryz.prog 145 #[hpI b, .int .i64 0, .int .i64 m] w fun e w' => ∃ r, e = .returned (.bool r) ∧ ∃ ys, ys.Perm xs ∧ ys[m]? = xs[m]? ∧ HeapN ys m ∧ Wd Γ (hpB b (.slice a n c) :: hpO a n c ys :: S) w' := by
  refine calls_of_W Tryz.func145 rfl rfl ?_
  repeat (first | refine byW ?_ | (refine byV ?_; intro w hw))
  refine W_loop (fun μ ρ w => ∃ (i : Nat) (ys : List Pl), μ = m - i ∧ i ≤ m ∧ ys.Perm xs ∧ ys[m]? = xs[m]? ∧ DownL ys i m ∧ Has ρ [(0, hpI b), (1, .int .i64 0), (2, .int .i64 m), (6, .bool false), (7, .int .i64 i)] ∧ Wd Γ (hpB b (.slice a n c) :: hpO a n c ys :: S) w) m ⟨0, xs, by omega, by omega, .refl _, rfl, hu, ⟨rfl, rfl, rfl, rfl, rfl, trivial⟩, hw⟩ ?_
  clear hw hu
  rintro μ ρ w ⟨i, ys, hμ, hi, hp, hx, hu, hρ, hw⟩
  have hl := hp.length_eq
  rw [hρ.eq]
  clear hρ
  repeat (first | refine byW ?_ | (refine byV ?_; intro w hw))
  refine W_cond rfl (fun h => ?_) (fun h => ?_)
  · have h : (decide ((2 * (i : Int) + 1) ≥ m) || decide ((2 * (i : Int) + 1) < 0)) = true := h
    have hs : m ≤ 2 * i + 1 := by
      rcases Bool.or_eq_true_iff.1 h with h | h
      · have := of_decide_eq_true h; omega
      · have := of_decide_eq_true h; omega
    repeat (first | refine byW ?_ | (refine byV ?_; intro w hw))
    exact ⟨_, rfl, _, rfl, ys, hp, hx, down_stop hu (fun k k0 kn kp => by omega), hw⟩
  · have h : (decide ((2 * (i : Int) + 1) ≥ m) || decide ((2 * (i : Int) + 1) < 0)) = false := h
    have hs : 2 * i + 1 < m := by
      have := of_decide_eq_false (Bool.or_eq_false_iff.1 h).1; omega
    clear h
    iterate 7 (first | refine byW ?_ | (refine byV ?_; intro w hw))
    refine W_cutT (fun ρ w => ∃ j : Nat, j < m ∧ 0 < j ∧ (j - 1) / 2 = i ∧ (∀ k, 0 < k → k < m → (k - 1) / 2 = i → hk ys j ≤ hk ys k) ∧ Has ρ [(0, hpI b), (1, .int .i64 0), (2, .int .i64 m), (6, .bool false), (7, .int .i64 i), (9, .int .i64 j)] ∧ Wd Γ (hpB b (.slice a n c) :: hpO a n c ys :: S) w) ?_ ?_
    · repeat (first | refine byW ?_ | (refine byV ?_; intro w hw))
      refine lInvPG (c := decide (2 * (i : Int) + 1 + 1 < m)) (fun hc => ps_less (xs := ys) (i := 2 * i + 2) (j := 2 * i + 1) (by have := of_decide_eq_true hc; omega) (by omega)) (hp_load' hw) ?_
      intro w hw
      have hw : Wd Γ (hpB b (.slice a n c) :: hpO a n c ys :: S) w := hw
      repeat (first | refine byW ?_ | (refine byV ?_; intro w hw))
      refine W_cond rfl (fun h => ?_) (fun h => ?_)
      · have h : (decide (2 * (i : Int) + 1 + 1 < m) && decide (hk ys (2 * i + 2) < hk ys (2 * i + 1))) = true := h
        obtain ⟨h1, h2⟩ := Bool.and_eq_true_iff.1 h
        have h1 := of_decide_eq_true h1
        have h2 := of_decide_eq_true h2
        repeat (first | refine byW ?_ | (refine byV ?_; intro w hw))
        refine ⟨2 * i + 2, by omega, by omega, by omega, fun k k0 kn kp => ?_, ⟨rfl, rfl, rfl, rfl, rfl, rfl, trivial⟩, hw⟩
        rcases (show k = 2 * i + 1 ∨ k = 2 * i + 2 by omega) with rfl | rfl
        · omega
        · omega
      · have h : (decide (2 * (i : Int) + 1 + 1 < m) && decide (hk ys (2 * i + 2) < hk ys (2 * i + 1))) = false := h
        repeat (first | refine byW ?_ | (refine byV ?_; intro w hw))
        refine ⟨2 * i + 1, by omega, by omega, by omega, fun k k0 kn kp => ?_, ⟨rfl, rfl, rfl, rfl, rfl, rfl, trivial⟩, hw⟩
        rcases (show k = 2 * i + 1 ∨ k = 2 * i + 2 by omega) with rfl | rfl
        · omega
        · rw [decide_eq_true (show 2 * (i : Int) + 1 + 1 < m by omega), Bool.true_and] at h
          have := of_decide_eq_false h
          omega
    · clear hw
      rintro ρ w ⟨j, hjm, hj0, hjp, hmin, hρ, hw⟩
      rw [hρ.eq]
      clear hρ
      repeat (first | refine byW ?_ | (refine byV ?_; intro w hw))
      refine lInvP (ps_less (xs := ys) (i := j) (j := i) (by omega) (by omega)) (hp_load' hw) ?_
      intro w hw
      have hw : Wd Γ (hpB b (.slice a n c) :: hpO a n c ys :: S) w := hw
      repeat (first | refine byW ?_ | (refine byV ?_; intro w hw))
      refine W_cond rfl (fun h => ?_) (fun h => ?_)
      · have h : (!decide (hk ys j < hk ys i)) = true := h
        have h : ¬ hk ys j < hk ys i := by simpa using h
        repeat (first | refine byW ?_ | (refine byV ?_; intro w hw))
        refine ⟨_, rfl, _, rfl, ys, hp, hx, down_stop hu (fun k k0 kn kp => ?_), hw⟩
        have := hmin k k0 kn kp
        omega
      · have h : (!decide (hk ys j < hk ys i)) = false := h
        have h : hk ys j < hk ys i := by simpa using h
        repeat (first | refine byW ?_ | (refine byV ?_; intro w hw))
        refine lInvV (hp_load' hw) ((swap_any (i := i) (j := j) (by omega) (by omega) (Wd.ps [1] hw)).mono fun e w hh => ?_)
        obtain ⟨rfl, hw⟩ := hh
        refine ⟨_, rfl, ?_⟩
        have hw : Wd Γ (hpB b (.slice a n c) :: hpO a n c (swp ys i j) :: S) w := Wd.ps [1] hw
        repeat (first | refine byW ?_ | (refine byV ?_; intro w hw))
        refine ⟨m - j, by omega, j, swp ys i j, rfl, by omega, (swp_perm (by omega) (by omega)).trans hp, ?_, down_step hu (by omega) hjm hj0 hjp h hmin, ⟨rfl, rfl, rfl, rfl, rfl, trivial⟩, hw⟩
        rw [swp_get (by omega) (by omega), if_neg (by omega), if_neg (by omega)]; exact hx

/-- Pop takes the last place. -/
theorem popm_any {Γ : Gho} {S : List Res} {w : World} {b : Nat} {a : Option Addr} {n c : Nat} {xs : List Pl} {m : Nat} {x : Pl} (hN : xs.length ≤ 1000000) (hm : m + 1 = xs.length) (hx : xs[m]? = some x) (hw : Wd Γ (hpB b (.slice a n c) :: hpO a n c xs :: S) w) :
    Calls Tryz.prog 150 #[.pointer (some ⟨b, 0, none⟩)] w fun e w' => e = .returned (.iface 109 (.agg (plV x).toArray)) ∧ ∃ v', Wd Γ (hpB b v' :: .own v' 109 2 ((xs.take m).map plV) :: S) w' := by
  obtain ⟨a', n', c', e, hn, hnc, -⟩ := hw.own_shape (i := 1) rfl
  cases e
  simp only [List.length_map] at hn
  have hx' : xs[((n : Int) - 1).toNat]? = some x := by rw [show ((n : Int) - 1).toNat = m from by omega]; exact hx
  refine calls_of_W Tryz.func150 rfl rfl ?_
  repeat (first | refine byW ?_ | (refine byV ?_; intro w hw))
  refine W_mixed [hpB b (.slice a n c), hpO a n c xs] [fun _ => [], fun _ => S] [[],[],[],[],[],[],[],[],[],[],[0],[0]] [[],[],[],[],[],[],[],[],[],[],[0],[0]] [[3], []] (by have := hw; simpa [List.range, List.range.loop, ML] using this) ?_
  repeat (first | refine mY ?_ | refine mP ?_ | refine mPg ?_)
  refine mAlloc ?_
  refine mStoreAt ?_
  refine mEnd fun w g hw => ?_
  have hw : Wd Γ (hpB b (.slice a n c) :: hpO a n c xs :: atP (g 3) _ :: (S ++ [])) w := hw
  rw [List.append_nil] at hw
  obtain ⟨b3, hg3, hw⟩ := (Wd.ps [2] hw).openAt
  have hw : Wd Γ (.blk b3 (.cells (plV x).toArray 109) :: hpB b (.slice a n c) :: hpO a n c xs :: S) w := hw
  refine W_has (l := [(0, .pointer (some ⟨b, 0, none⟩)), (3, .pointer (some ⟨b3, 0, none⟩))]) ⟨rfl, hg3, trivial⟩ fun ρ' hρ' => ?_
  rw [hρ'.eq]
  clear hρ' hg3
  repeat (first | refine byW ?_ | (refine byV ?_; intro w hw))
  refine W_mix1 [.blk b3 (.cells (plV x).toArray 109)] _ [[],[],[],[],[],[],[],[],[],[],[],[0]] [[],[],[],[0],[],[],[0],[],[],[],[],[0]] hw ?_
  repeat (first | refine mY ?_ | refine mP ?_ | refine mPg ?_)
  refine mStoreC (j := 0) (vs := [.slice a ((n : Int) - 1).toNat c]) ?_
  repeat (first | refine mY ?_ | refine mP ?_ | refine mEndAt ?_ | refine mEnd0 ?_ | refine mEnd ?_)
  intro w hw
  rw [show ((n : Int) - 1).toNat = m from by omega] at hw
  have hw : Wd Γ (.blk b3 (.cells (plV x).toArray 109) :: ((hpB b (.slice a m c) :: hpO a n c xs :: S) ++ [])) w := hw
  rw [List.append_nil] at hw
  have hw := Wd.own_take (i := 2) (m := m) hw rfl (by omega)
  rw [← List.map_take] at hw
  have hw : Wd Γ (.blk b3 (.cells (plV x).toArray 109) :: hpB b (.slice a m c) :: hpO a m c (xs.take m) :: S) w := hw
  repeat (first | refine byW ?_ | (refine byV ?_; intro w hw))
  refine lY (v := .iface 109 (.agg (plV x).toArray)) ?_ (hy := y_mkI rfl)
  repeat (first | refine byW ?_ | (refine byV ?_; intro w hw))
  exact ⟨_, rfl, rfl, _, hw.drop⟩

/-- heap.Push: the place x is added to a heap. -/
theorem hpush_any {Γ : Gho} {S : List Res} {w : World} {b : Nat} {v : Value} {xs : List Pl} {x : Pl} (hN : xs.length + 1 ≤ 1000000) (hh : HeapN xs xs.length) (hw : Wd Γ (hpB b v :: .own v 109 2 (xs.map plV) :: S) w) :
    Calls Tryz.prog 142 #[hpI b, .iface 109 (.agg (plV x).toArray)] w fun e w' => e = .returned (.tuple #[]) ∧ ∃ v' ys, ys.Perm (x :: xs) ∧ HeapN ys ys.length ∧ Wd Γ (hpB b v' :: .own v' 109 2 (ys.map plV) :: S) w' := by
  refine calls_of_W Tryz.func142 rfl rfl ?_
  repeat (first | refine byW ?_ | (refine byV ?_; intro w hw))
  refine lInv ((push_any (by omega) hw).mono fun e w hh' => ?_)
  obtain ⟨rfl, v', hw⟩ := hh'
  obtain ⟨a, n, c, rfl, hn, hnc, -⟩ := hw.own_shape (i := 1) rfl
  simp only [List.length_map, List.length_append, List.length_singleton] at hn
  refine ⟨_, rfl, ?_⟩
  repeat (first | refine byW ?_ | (refine byV ?_; intro w hw))
  refine lInvV (hp_load' hw) ((len_any hw).mono fun e w hh' => ?_)
  obtain ⟨rfl, hw⟩ := hh'
  refine ⟨_, rfl, ?_⟩
  have e1 : ((n : Int) - 1) = (xs.length : Nat) := by omega
  repeat (first | refine byW ?_ | (refine byV ?_; intro w hw))
  rw [e1]
  refine lCall ((up_any (j := xs.length) (by simp; omega) (by simp) (up_init hh) hw).mono fun e w hh' => ?_)
  obtain ⟨rfl, ys, hp, hy, hw⟩ := hh'
  refine ⟨_, rfl, ?_⟩
  repeat (first | refine byW ?_ | (refine byV ?_; intro w hw))
  exact ⟨_, rfl, rfl, _, ys, hp.trans List.perm_append_comm, hy, hw⟩

/-- heap.Pop: a least place is taken out. -/
theorem hpop_any {Γ : Gho} {S : List Res} {w : World} {b : Nat} {v : Value} {xs : List Pl} (hN : xs.length ≤ 1000000) (h0 : xs ≠ []) (hh : HeapN xs xs.length) (hw : Wd Γ (hpB b v :: .own v 109 2 (xs.map plV) :: S) w) :
    Calls Tryz.prog 143 #[hpI b] w fun e w' => ∃ x v' ys, e = .returned (.iface 109 (.agg (plV x).toArray)) ∧ (x :: ys).Perm xs ∧ (∀ y ∈ xs, x.2 ≤ y.2) ∧ HeapN ys ys.length ∧ Wd Γ (hpB b v' :: .own v' 109 2 (ys.map plV) :: S) w' := by
  obtain ⟨a, n, c, rfl, hn, hnc, -⟩ := hw.own_shape (i := 1) rfl
  simp only [List.length_map] at hn
  obtain ⟨m, hm⟩ : ∃ m, xs.length = m + 1 := ⟨xs.length - 1, by have := List.length_pos_iff.2 h0; omega⟩
  obtain ⟨x, hx⟩ := get_lt (l := xs) (k := 0) (by omega)
  have e1 : ((n : Int) - 1) = (m : Nat) := by omega
  refine calls_of_W Tryz.func143 rfl rfl ?_
  repeat (first | refine byW ?_ | (refine byV ?_; intro w hw))
  refine lInvV (hp_load' hw) ((len_any hw).mono fun e w hh' => ?_)
  obtain ⟨rfl, hw⟩ := hh'
  refine ⟨_, rfl, ?_⟩
  repeat (first | refine byW ?_ | (refine byV ?_; intro w hw))
  rw [e1]
  refine lInvV (hp_load' hw) ((swap_any (i := 0) (j := m) (by omega) (by omega) (Wd.ps [1] hw)).mono fun e w hh' => ?_)
  obtain ⟨rfl, hw⟩ := hh'
  refine ⟨_, rfl, ?_⟩
  have hw : Wd Γ (hpB b (.slice a n c) :: hpO a n c (swp xs 0 m) :: S) w := Wd.ps [1] hw
  repeat (first | refine byW ?_ | (refine byV ?_; intro w hw))
  refine lCall ((down_any (m := m) (by rw [swp_len]; omega) (by rw [swp_len]; omega) (down_init hh hm) hw).mono fun e w hh' => ?_)
  obtain ⟨r, rfl, ys, hp, hy, hz, hw⟩ := hh'
  rw [swp_get (by omega) (by omega), if_pos rfl, hx] at hy
  have hl := hp.length_eq
  rw [swp_len] at hl
  refine ⟨_, rfl, ?_⟩
  repeat (first | refine byW ?_ | (refine byV ?_; intro w hw))
  refine lInv ((popm_any (m := m) (by omega) (by omega) hy hw).mono fun e w hh' => ?_)
  obtain ⟨rfl, v', hw⟩ := hh'
  refine ⟨_, rfl, ?_⟩
  repeat (first | refine byW ?_ | (refine byV ?_; intro w hw))
  exact ⟨_, rfl, x, v', ys.take m, rfl, (perm_take hp (by omega) hy).trans (swp_perm (by omega) (by omega)), heap_min hh hx, heap_take hz (by omega), hw⟩

/-- The queue's methods. -/
theorem qadd_any {Γ : Gho} {S : List Res} {w : World} {b : Nat} {v : Value} {xs : List Pl} {n d : Int} (hN : xs.length + 1 ≤ 1000000) (hh : HeapN xs xs.length) (hw : Wd Γ (hpB b v :: .own v 109 2 (xs.map plV) :: S) w) :
    Calls Tryz.prog 139 #[.pointer (some ⟨b, 0, none⟩), .int .i64 n, .int .i64 d] w fun e w' => e = .returned (.tuple #[]) ∧ ∃ v' ys, ys.Perm ((n, d) :: xs) ∧ HeapN ys ys.length ∧ Wd Γ (hpB b v' :: .own v' 109 2 (ys.map plV) :: S) w' := by
  refine calls_of_W Tryz.func139 rfl rfl ?_
  repeat (first | refine byW ?_ | (refine byV ?_; intro w hw))
  refine lY (v := hpI b) ?_ (hy := y_mkI rfl)
  repeat (first | refine byW ?_ | (refine byV ?_; intro w hw))
  refine lY (v := .iface 109 (.agg (plV (n, d)).toArray)) ?_ (hy := y_mkI rfl)
  repeat (first | refine byW ?_ | (refine byV ?_; intro w hw))
  refine lCall ((hpush_any hN hh hw).mono fun e w hh' => ?_)
  obtain ⟨rfl, h⟩ := hh'
  refine ⟨_, rfl, ?_⟩
  repeat (first | refine byW ?_ | (refine byV ?_; intro w hw))
  exact ⟨_, rfl, rfl, h⟩
theorem qempty_any {Γ : Gho} {S : List Res} {w : World} {b : Nat} {v : Value} {xs : List Pl} (hw : Wd Γ (hpB b v :: .own v 109 2 (xs.map plV) :: S) w) :
    Calls Tryz.prog 140 #[.pointer (some ⟨b, 0, none⟩)] w fun e w' => e = .returned (.bool (decide ((xs.length : Int) = 0))) ∧ Wd Γ (hpB b v :: .own v 109 2 (xs.map plV) :: S) w' := by
  obtain ⟨a, n, c, rfl, hn, hnc, -⟩ := hw.own_shape (i := 1) rfl
  simp only [List.length_map] at hn
  subst hn
  refine calls_of_W Tryz.func140 rfl rfl ?_
  repeat (first | refine byW ?_ | (refine byV ?_; intro w hw))
  exact ⟨_, rfl, rfl, hw⟩
theorem qtake_any {Γ : Gho} {S : List Res} {w : World} {b : Nat} {v : Value} {xs : List Pl} (hN : xs.length ≤ 1000000) (h0 : xs ≠ []) (hh : HeapN xs xs.length) (hw : Wd Γ (hpB b v :: .own v 109 2 (xs.map plV) :: S) w) :
    Calls Tryz.prog 141 #[.pointer (some ⟨b, 0, none⟩)] w fun e w' => ∃ (x : Pl) (v' : Value) (ys : List Pl), e = .returned (.tuple #[.int .i64 x.1, .int .i64 x.2]) ∧ (x :: ys).Perm xs ∧ (∀ y ∈ xs, x.2 ≤ y.2) ∧ HeapN ys ys.length ∧ Wd Γ (hpB b v' :: .own v' 109 2 (ys.map plV) :: S) w' := by
  refine calls_of_W Tryz.func141 rfl rfl ?_
  repeat (first | refine byW ?_ | (refine byV ?_; intro w hw))
  refine lY (v := hpI b) ?_ (hy := y_mkI rfl)
  repeat (first | refine byW ?_ | (refine byV ?_; intro w hw))
  refine lCall ((hpop_any hN h0 hh hw).mono fun e w hh' => ?_)
  obtain ⟨x, v', ys, rfl, h1, h2, h3, hw⟩ := hh'
  refine ⟨_, rfl, ?_⟩
  repeat (first | refine byW ?_ | (refine byV ?_; intro w hw))
  refine lY (v := .agg (plV x).toArray) ?_ (hy := y_assert Tryz.underlying109 rfl)
  refine lAlloc ?_
  intro b4 w hw
  refine lStore ?_
  intro w hw
  have hw : Wd Γ (.blk b4 (.cells (plV x).toArray 109) :: hpB b v' :: .own v' 109 2 (ys.map plV) :: S) w := hw
  repeat (first | refine byW ?_ | (refine byV ?_; intro w hw))
  refine W_quiet (by kernel_rfl) (by kernel_rfl) hw ?_
  repeat (first | refine Q_nil ?_ | (apply Q_plain; first | (apply Q_go; first | refine qP ?_ | refine qPg ?_) | refine qY ?_) | (apply Q_guarded; first | (apply Q_go; first | refine qPG ?_ | refine qPgG ?_) | refine qG ?_))
  intro w hw
  repeat (first | refine byW ?_ | (refine byV ?_; intro w hw))
  exact ⟨_, rfl, x, v', ys, rfl, h1, h2, h3, hw.drop⟩
end Go.Proofs.YteiijmclobggjaaGreat
end
/- Given descriptions and trees, as the walks read them (plain statements; printed by gen_zh.py). -/
section
open Go Mk
namespace Go.Proofs.YteiijmclobggjaaGreat
open Go.ChangeShapes Go.WideShapes Go.ChangeAt Go.RowKit
def wideI (n : Int) : Prop := 0 ≤ n ∧ n ≤ 18446744073709551615
section
variable {H : Type} {en : TypeId × Value → H} {W W' : World} {base : Nat} {sp : Nat → Bool} {held : Bool} {S : List Res}
theorem read_slice {α : Type} [Inhabited α] {F : α → List Value} {p : α → Prop} {t e sz : Nat} (hc : Tryz.prog.cellsOf e = sz) (h0 : 0 < sz) (hF : ∀ x, (F x).length = sz) (ht : Tryz.prog.underlying t = some (.slice e))
    (hel : ∀ {n : Nat} {cs : List Value} {y : DataW H × List MemPlace}, DataW.trod en Tryz.prog W base sp held n e cs = some y → ∃ x : α, cs = F x ∧ p x)
    {n : Nat} {v : Value} {y : DataW H × List MemPlace} (h : DataW.trod en Tryz.prog W base sp held n t [v] = some y) : ∃ xs : List α, RepS (allG W) v sz (xs.map F) ∧ ∀ x ∈ xs, p x := by
  rcases Deep.open_slice ht h with ⟨h0, -⟩ | ⟨a, len, cap, m, k, D, Pl, h1, -, hlc, hcm, hm, -, hel2⟩
  · cases h0
    exact ⟨[], RepS.nil, fun x hx => by cases hx⟩
  · cases h1
    have hlm : len ≤ m := by rw [hm]; split <;> omega
    have hx : ∀ i, i < len → ∃ x : α, p x ∧ ∀ j u, (F x)[j]? = some u → W.cell? (a.add (i * sz + j)) = some u := fun i hi => by
      obtain ⟨cs', h1, h2⟩ := hel2 i (by omega)
      rw [hc] at h1
      obtain ⟨-, hl, hat⟩ := World.cells?_some h1
      obtain ⟨x, rfl, hp⟩ := hel h2
      refine ⟨x, hp, fun j u hu => ?_⟩
      have hj : j < sz := by rw [← hl]; exact (List.getElem?_eq_some_iff.1 hu).1
      have := hat j hj
      rw [hu, Go.Deep.add_add] at this
      exact this
    obtain ⟨f, hf⟩ : ∃ f : Nat → α, ∀ i, i < len → p (f i) ∧ ∀ j u, (F (f i))[j]? = some u → W.cell? (a.add (i * sz + j)) = some u := by
      refine ⟨fun i => if hi : i < len then (hx i hi).choose else default, fun i hi => ?_⟩
      simp only [hi, dif_pos]
      exact (hx i hi).choose_spec
    refine ⟨(List.range len).map f, ?_, fun x hx => ?_⟩
    · unfold RepS
      refine ⟨fun r hr => ?_, some a, len, cap, rfl, by simp, hlc, hcm, fun hpos => ?_⟩
      · obtain ⟨x, -, rfl⟩ := List.mem_map.1 hr
        exact hF x
      · have hpos : 0 < len := by simpa using hpos
        obtain ⟨u0, hu0⟩ : ∃ u, (F (f 0))[0]? = some u := ⟨_, List.getElem?_eq_getElem (by rw [hF]; exact h0)⟩
        have h00 := (hf 0 hpos).2 0 u0 hu0
        obtain ⟨g, o, spt⟩ := a
        have h01 : W.cell? ⟨g, o, spt⟩ = some u0 := by
          rw [Nat.zero_mul] at h00
          simpa [Addr.add] using h00
        unfold World.cell? at h01
        cases hg : W.heap[g]? with
        | none => rw [hg] at h01; simp at h01
        | some ob =>
          rw [hg] at h01
          cases ob with
          | cells cur e fr =>
            cases spt with
            | some q => simp at h01
            | none =>
              refine ⟨g, o, cur, e, fr, rfl, hg, fun j u hj => ?_⟩
              obtain ⟨i, r, row, h1, h2, h3⟩ := flat_inv (sz := sz) (rows := ((List.range len).map f).map F) (fun r hr => by
                obtain ⟨x, -, rfl⟩ := List.mem_map.1 hr
                exact hF x) hj
              rw [List.getElem?_map, List.getElem?_map] at h1
              have hi : i < len := by
                by_cases hi : i < len
                · exact hi
                · rw [List.getElem?_eq_none (by simpa using hi)] at h1; simp at h1
              rw [List.getElem?_range hi] at h1
              simp only [Option.map_some, Option.some.injEq] at h1
              subst h1
              have h4 : W.cell? ⟨g, o + (i * sz + r), none⟩ = some u := by
                have h5 := (hf i hi).2 r u h2
                rwa [show Addr.add ⟨g, o, none⟩ (i * sz + r) = ⟨g, o + (i * sz + r), none⟩ from by
                  unfold Addr.add
                  by_cases h0 : i * sz + r = 0
                  · rw [if_pos h0, h0]; rfl
                  · rw [if_neg h0]] at h5
              unfold World.cell? at h4
              rw [hg] at h4
              rw [h3]
              simpa using h4
          | _ => simp at h01
    · obtain ⟨i, hi, rfl⟩ := List.mem_map.1 hx
      exact (hf i (List.mem_range.1 hi)).1
theorem list3 : ∀ cs : List Value, cs.length = 3 → ∃ a b c, cs = [a, b, c]
  | [a, b, c], _ => ⟨a, b, c, rfl⟩
theorem list2 : ∀ cs : List Value, cs.length = 2 → ∃ a b, cs = [a, b]
  | [a, b], _ => ⟨a, b, rfl⟩
end
section
variable {H : Type} {en : TypeId × Value → H} {W W' : World} {base : Nat} {sp : Nat → Bool} {held : Bool} {S : List Res}
def okI (n : Int) : Prop := -9223372036854775808 ≤ n ∧ n ≤ 9223372036854775807
theorem list4 : ∀ cs : List Value, cs.length = 4 → ∃ a b c d, cs = [a, b, c, d]
  | [a, b, c, d], _ => ⟨a, b, c, d, rfl⟩
theorem list5 : ∀ cs : List Value, cs.length = 5 → ∃ a b c d e, cs = [a, b, c, d, e]
  | [a, b, c, d, e], _ => ⟨a, b, c, d, e, rfl⟩
theorem list6 : ∀ cs : List Value, cs.length = 6 → ∃ a b c d e f, cs = [a, b, c, d, e, f]
  | [a, b, c, d, e, f], _ => ⟨a, b, c, d, e, f, rfl⟩
theorem read_i {n : Nat} {cs : List Value} {y : DataW H × List MemPlace} (h : DataW.trod en Tryz.prog W base sp held n 3 cs = some y) : ∃ x : Int, cs = [.int .i64 x] ∧ okI x := by
  obtain ⟨a, ha, -, hw⟩ := DataW.trod_int Tryz.underlying3 h
  subst ha
  refine ⟨a, rfl, ?_⟩
  simp only [Lit.wf, IntKind.min, IntKind.max, IntKind.bits, IntKind.signed] at hw
  simpa [okI] using hw
theorem read_u {n : Nat} {cs : List Value} {y : DataW H × List MemPlace} (h : DataW.trod en Tryz.prog W base sp held n 63 cs = some y) : ∃ x : Int, cs = [.int .u64 x] ∧ wideI x := by
  obtain ⟨a, ha, -, hw⟩ := DataW.trod_int Tryz.underlying63 h
  subst ha
  refine ⟨a, rfl, ?_⟩
  simp only [Lit.wf, IntKind.min, IntKind.max, IntKind.bits, IntKind.signed] at hw
  simpa [wideI] using hw
theorem read_s {n : Nat} {cs : List Value} {y : DataW H × List MemPlace} (h : DataW.trod en Tryz.prog W base sp held n 9 cs = some y) : ∃ x : ByteArray, cs = [.string x] := by
  obtain ⟨s, hs, -, -⟩ := DataW.trod_string Tryz.underlying9 h
  exact ⟨s, hs⟩
theorem read_intsK {n : Nat} {v : Value} {y : DataW H × List MemPlace} (h : DataW.trod en Tryz.prog W base sp held n 29 [v] = some y) : ∃ xs : List Int, RepS (allG W) v 1 (intRows xs) ∧ ∀ x ∈ xs, okI x :=
  read_slice (F := fun x : Int => [.int .i64 x]) (sz := 1) (e := 3) (by kernel_rfl) (by decide) (fun x => rfl) Tryz.underlying29 (fun h => read_i h) h
theorem read_core {n : Nat} {cs : List Value} {y : DataW H × List MemPlace} (h : DataW.trod en Tryz.prog W base sp held n 53 cs = some y) : ∃ x : CoreT, cs = enc x ∧ (okI x.ID ∧ okI x.Width ∧ okI x.Node ∧ okI x.Speed) := by
  obtain ⟨xs, k, -, -, hl, hxl, hf⟩ := DataW.trod_struct Tryz.underlying53 h
  have hl : cs.length = 4 := hl.trans (by kernel_rfl)
  obtain ⟨c0, c1, c2, c3, rfl⟩ := list4 cs hl
  have hxl : xs.length = 4 := hxl
  have e0 : Tryz.prog.cellsOf 3 = 1 := by kernel_rfl
  have g0 : DataW.trod en Tryz.prog W base sp held k 3 (([c0, c1, c2, c3].drop 0).take (Tryz.prog.cellsOf 3)) = xs[0]? := hf 0 { name := "ID", type := 3, offset := 0, embedded := false, tag := "", pkgPath := "", byteOffset := 0 } rfl
  rw [e0, List.getElem?_eq_getElem (by omega)] at g0
  have e1 : Tryz.prog.cellsOf 3 = 1 := by kernel_rfl
  have g1 : DataW.trod en Tryz.prog W base sp held k 3 (([c0, c1, c2, c3].drop 1).take (Tryz.prog.cellsOf 3)) = xs[1]? := hf 1 { name := "Width", type := 3, offset := 1, embedded := false, tag := "", pkgPath := "", byteOffset := 8 } rfl
  rw [e1, List.getElem?_eq_getElem (by omega)] at g1
  have e2 : Tryz.prog.cellsOf 3 = 1 := by kernel_rfl
  have g2 : DataW.trod en Tryz.prog W base sp held k 3 (([c0, c1, c2, c3].drop 2).take (Tryz.prog.cellsOf 3)) = xs[2]? := hf 2 { name := "Node", type := 3, offset := 2, embedded := false, tag := "", pkgPath := "", byteOffset := 16 } rfl
  rw [e2, List.getElem?_eq_getElem (by omega)] at g2
  have e3 : Tryz.prog.cellsOf 3 = 1 := by kernel_rfl
  have g3 : DataW.trod en Tryz.prog W base sp held k 3 (([c0, c1, c2, c3].drop 3).take (Tryz.prog.cellsOf 3)) = xs[3]? := hf 3 { name := "Speed", type := 3, offset := 3, embedded := false, tag := "", pkgPath := "", byteOffset := 24 } rfl
  rw [e3, List.getElem?_eq_getElem (by omega)] at g3
  obtain ⟨x0, h0, i0⟩ := read_i g0
  obtain ⟨x1, h1, i1⟩ := read_i g1
  obtain ⟨x2, h2, i2⟩ := read_i g2
  obtain ⟨x3, h3, i3⟩ := read_i g3
  simp only [List.drop_zero, List.take_succ_cons, List.take_zero, List.drop_succ_cons, List.cons.injEq, and_true] at h0
  subst h0
  simp only [List.drop_zero, List.take_succ_cons, List.take_zero, List.drop_succ_cons, List.cons.injEq, and_true] at h1
  subst h1
  simp only [List.drop_zero, List.take_succ_cons, List.take_zero, List.drop_succ_cons, List.cons.injEq, and_true] at h2
  subst h2
  simp only [List.drop_zero, List.take_succ_cons, List.take_zero, List.drop_succ_cons, List.cons.injEq, and_true] at h3
  subst h3
  exact ⟨⟨x0, x1, x2, x3⟩, rfl, i0, i1, i2, i3⟩
theorem read_link {n : Nat} {cs : List Value} {y : DataW H × List MemPlace} (h : DataW.trod en Tryz.prog W base sp held n 56 cs = some y) : ∃ x : LinkT, cs = enc x ∧ (okI x.A ∧ okI x.B ∧ okI x.Latency) := by
  obtain ⟨xs, k, -, -, hl, hxl, hf⟩ := DataW.trod_struct Tryz.underlying56 h
  have hl : cs.length = 3 := hl.trans (by kernel_rfl)
  obtain ⟨c0, c1, c2, rfl⟩ := list3 cs hl
  have hxl : xs.length = 3 := hxl
  have e0 : Tryz.prog.cellsOf 3 = 1 := by kernel_rfl
  have g0 : DataW.trod en Tryz.prog W base sp held k 3 (([c0, c1, c2].drop 0).take (Tryz.prog.cellsOf 3)) = xs[0]? := hf 0 { name := "A", type := 3, offset := 0, embedded := false, tag := "", pkgPath := "", byteOffset := 0 } rfl
  rw [e0, List.getElem?_eq_getElem (by omega)] at g0
  have e1 : Tryz.prog.cellsOf 3 = 1 := by kernel_rfl
  have g1 : DataW.trod en Tryz.prog W base sp held k 3 (([c0, c1, c2].drop 1).take (Tryz.prog.cellsOf 3)) = xs[1]? := hf 1 { name := "B", type := 3, offset := 1, embedded := false, tag := "", pkgPath := "", byteOffset := 8 } rfl
  rw [e1, List.getElem?_eq_getElem (by omega)] at g1
  have e2 : Tryz.prog.cellsOf 3 = 1 := by kernel_rfl
  have g2 : DataW.trod en Tryz.prog W base sp held k 3 (([c0, c1, c2].drop 2).take (Tryz.prog.cellsOf 3)) = xs[2]? := hf 2 { name := "Latency", type := 3, offset := 2, embedded := false, tag := "", pkgPath := "", byteOffset := 16 } rfl
  rw [e2, List.getElem?_eq_getElem (by omega)] at g2
  obtain ⟨x0, h0, i0⟩ := read_i g0
  obtain ⟨x1, h1, i1⟩ := read_i g1
  obtain ⟨x2, h2, i2⟩ := read_i g2
  simp only [List.drop_zero, List.take_succ_cons, List.take_zero, List.drop_succ_cons, List.cons.injEq, and_true] at h0
  subst h0
  simp only [List.drop_zero, List.take_succ_cons, List.take_zero, List.drop_succ_cons, List.cons.injEq, and_true] at h1
  subst h1
  simp only [List.drop_zero, List.take_succ_cons, List.take_zero, List.drop_succ_cons, List.cons.injEq, and_true] at h2
  subst h2
  exact ⟨⟨x0, x1, x2⟩, rfl, i0, i1, i2⟩
theorem read_mem {n : Nat} {cs : List Value} {y : DataW H × List MemPlace} (h : DataW.trod en Tryz.prog W base sp held n 67 cs = some y) : ∃ x : MemT, cs = enc x ∧ (wideI x.Base ∧ wideI x.Size ∧ okI x.Node ∧ okI x.Latency) := by
  obtain ⟨xs, k, -, -, hl, hxl, hf⟩ := DataW.trod_struct Tryz.underlying67 h
  have hl : cs.length = 5 := hl.trans (by kernel_rfl)
  obtain ⟨c0, c1, c2, c3, c4, rfl⟩ := list5 cs hl
  have hxl : xs.length = 5 := hxl
  have e0 : Tryz.prog.cellsOf 9 = 1 := by kernel_rfl
  have g0 : DataW.trod en Tryz.prog W base sp held k 9 (([c0, c1, c2, c3, c4].drop 0).take (Tryz.prog.cellsOf 9)) = xs[0]? := hf 0 { name := "Name", type := 9, offset := 0, embedded := false, tag := "", pkgPath := "", byteOffset := 0 } rfl
  rw [e0, List.getElem?_eq_getElem (by omega)] at g0
  have e1 : Tryz.prog.cellsOf 63 = 1 := by kernel_rfl
  have g1 : DataW.trod en Tryz.prog W base sp held k 63 (([c0, c1, c2, c3, c4].drop 1).take (Tryz.prog.cellsOf 63)) = xs[1]? := hf 1 { name := "Base", type := 63, offset := 1, embedded := false, tag := "", pkgPath := "", byteOffset := 16 } rfl
  rw [e1, List.getElem?_eq_getElem (by omega)] at g1
  have e2 : Tryz.prog.cellsOf 63 = 1 := by kernel_rfl
  have g2 : DataW.trod en Tryz.prog W base sp held k 63 (([c0, c1, c2, c3, c4].drop 2).take (Tryz.prog.cellsOf 63)) = xs[2]? := hf 2 { name := "Size", type := 63, offset := 2, embedded := false, tag := "", pkgPath := "", byteOffset := 24 } rfl
  rw [e2, List.getElem?_eq_getElem (by omega)] at g2
  have e3 : Tryz.prog.cellsOf 3 = 1 := by kernel_rfl
  have g3 : DataW.trod en Tryz.prog W base sp held k 3 (([c0, c1, c2, c3, c4].drop 3).take (Tryz.prog.cellsOf 3)) = xs[3]? := hf 3 { name := "Node", type := 3, offset := 3, embedded := false, tag := "", pkgPath := "", byteOffset := 32 } rfl
  rw [e3, List.getElem?_eq_getElem (by omega)] at g3
  have e4 : Tryz.prog.cellsOf 3 = 1 := by kernel_rfl
  have g4 : DataW.trod en Tryz.prog W base sp held k 3 (([c0, c1, c2, c3, c4].drop 4).take (Tryz.prog.cellsOf 3)) = xs[4]? := hf 4 { name := "Latency", type := 3, offset := 4, embedded := false, tag := "", pkgPath := "", byteOffset := 40 } rfl
  rw [e4, List.getElem?_eq_getElem (by omega)] at g4
  obtain ⟨x0, h0⟩ := read_s g0
  obtain ⟨x1, h1, i1⟩ := read_u g1
  obtain ⟨x2, h2, i2⟩ := read_u g2
  obtain ⟨x3, h3, i3⟩ := read_i g3
  obtain ⟨x4, h4, i4⟩ := read_i g4
  simp only [List.drop_zero, List.take_succ_cons, List.take_zero, List.drop_succ_cons, List.cons.injEq, and_true] at h0
  subst h0
  simp only [List.drop_zero, List.take_succ_cons, List.take_zero, List.drop_succ_cons, List.cons.injEq, and_true] at h1
  subst h1
  simp only [List.drop_zero, List.take_succ_cons, List.take_zero, List.drop_succ_cons, List.cons.injEq, and_true] at h2
  subst h2
  simp only [List.drop_zero, List.take_succ_cons, List.take_zero, List.drop_succ_cons, List.cons.injEq, and_true] at h3
  subst h3
  simp only [List.drop_zero, List.take_succ_cons, List.take_zero, List.drop_succ_cons, List.cons.injEq, and_true] at h4
  subst h4
  exact ⟨⟨x0, x1, x2, x3, x4⟩, rfl, i1, i2, i3, i4⟩
theorem read_dev {n : Nat} {cs : List Value} {y : DataW H × List MemPlace} (h : DataW.trod en Tryz.prog W base sp held n 69 cs = some y) : ∃ x : DevT, cs = enc x ∧ (okI x.Node ∧ okI x.IRQ ∧ wideI x.Base ∧ wideI x.Size) := by
  obtain ⟨xs, k, -, -, hl, hxl, hf⟩ := DataW.trod_struct Tryz.underlying69 h
  have hl : cs.length = 5 := hl.trans (by kernel_rfl)
  obtain ⟨c0, c1, c2, c3, c4, rfl⟩ := list5 cs hl
  have hxl : xs.length = 5 := hxl
  have e0 : Tryz.prog.cellsOf 9 = 1 := by kernel_rfl
  have g0 : DataW.trod en Tryz.prog W base sp held k 9 (([c0, c1, c2, c3, c4].drop 0).take (Tryz.prog.cellsOf 9)) = xs[0]? := hf 0 { name := "Name", type := 9, offset := 0, embedded := false, tag := "", pkgPath := "", byteOffset := 0 } rfl
  rw [e0, List.getElem?_eq_getElem (by omega)] at g0
  have e1 : Tryz.prog.cellsOf 3 = 1 := by kernel_rfl
  have g1 : DataW.trod en Tryz.prog W base sp held k 3 (([c0, c1, c2, c3, c4].drop 1).take (Tryz.prog.cellsOf 3)) = xs[1]? := hf 1 { name := "Node", type := 3, offset := 1, embedded := false, tag := "", pkgPath := "", byteOffset := 16 } rfl
  rw [e1, List.getElem?_eq_getElem (by omega)] at g1
  have e2 : Tryz.prog.cellsOf 3 = 1 := by kernel_rfl
  have g2 : DataW.trod en Tryz.prog W base sp held k 3 (([c0, c1, c2, c3, c4].drop 2).take (Tryz.prog.cellsOf 3)) = xs[2]? := hf 2 { name := "IRQ", type := 3, offset := 2, embedded := false, tag := "", pkgPath := "", byteOffset := 24 } rfl
  rw [e2, List.getElem?_eq_getElem (by omega)] at g2
  have e3 : Tryz.prog.cellsOf 63 = 1 := by kernel_rfl
  have g3 : DataW.trod en Tryz.prog W base sp held k 63 (([c0, c1, c2, c3, c4].drop 3).take (Tryz.prog.cellsOf 63)) = xs[3]? := hf 3 { name := "Base", type := 63, offset := 3, embedded := false, tag := "", pkgPath := "", byteOffset := 32 } rfl
  rw [e3, List.getElem?_eq_getElem (by omega)] at g3
  have e4 : Tryz.prog.cellsOf 63 = 1 := by kernel_rfl
  have g4 : DataW.trod en Tryz.prog W base sp held k 63 (([c0, c1, c2, c3, c4].drop 4).take (Tryz.prog.cellsOf 63)) = xs[4]? := hf 4 { name := "Size", type := 63, offset := 4, embedded := false, tag := "", pkgPath := "", byteOffset := 40 } rfl
  rw [e4, List.getElem?_eq_getElem (by omega)] at g4
  obtain ⟨x0, h0⟩ := read_s g0
  obtain ⟨x1, h1, i1⟩ := read_i g1
  obtain ⟨x2, h2, i2⟩ := read_i g2
  obtain ⟨x3, h3, i3⟩ := read_u g3
  obtain ⟨x4, h4, i4⟩ := read_u g4
  simp only [List.drop_zero, List.take_succ_cons, List.take_zero, List.drop_succ_cons, List.cons.injEq, and_true] at h0
  subst h0
  simp only [List.drop_zero, List.take_succ_cons, List.take_zero, List.drop_succ_cons, List.cons.injEq, and_true] at h1
  subst h1
  simp only [List.drop_zero, List.take_succ_cons, List.take_zero, List.drop_succ_cons, List.cons.injEq, and_true] at h2
  subst h2
  simp only [List.drop_zero, List.take_succ_cons, List.take_zero, List.drop_succ_cons, List.cons.injEq, and_true] at h3
  subst h3
  simp only [List.drop_zero, List.take_succ_cons, List.take_zero, List.drop_succ_cons, List.cons.injEq, and_true] at h4
  subst h4
  exact ⟨⟨x0, x1, x2, x3, x4⟩, rfl, i1, i2, i3, i4⟩
theorem read_cache {n : Nat} {cs : List Value} {y : DataW H × List MemPlace} (h : DataW.trod en Tryz.prog W base sp held n 65 cs = some y) : ∃ x : CacheH, cs = cC x ∧ (COk (allG W) x ∧ okI x.Level ∧ okI x.Line ∧ wideI x.Size ∧ ∀ v ∈ x.Cores, okI v) := by
  obtain ⟨xs, k, -, -, hl, hxl, hf⟩ := DataW.trod_struct Tryz.underlying65 h
  have hl : cs.length = 5 := hl.trans (by kernel_rfl)
  obtain ⟨c0, c1, c2, c3, c4, rfl⟩ := list5 cs hl
  have hxl : xs.length = 5 := hxl
  have e0 : Tryz.prog.cellsOf 9 = 1 := by kernel_rfl
  have g0 : DataW.trod en Tryz.prog W base sp held k 9 (([c0, c1, c2, c3, c4].drop 0).take (Tryz.prog.cellsOf 9)) = xs[0]? := hf 0 { name := "Name", type := 9, offset := 0, embedded := false, tag := "", pkgPath := "", byteOffset := 0 } rfl
  rw [e0, List.getElem?_eq_getElem (by omega)] at g0
  have e1 : Tryz.prog.cellsOf 3 = 1 := by kernel_rfl
  have g1 : DataW.trod en Tryz.prog W base sp held k 3 (([c0, c1, c2, c3, c4].drop 1).take (Tryz.prog.cellsOf 3)) = xs[1]? := hf 1 { name := "Level", type := 3, offset := 1, embedded := false, tag := "", pkgPath := "", byteOffset := 16 } rfl
  rw [e1, List.getElem?_eq_getElem (by omega)] at g1
  have e2 : Tryz.prog.cellsOf 3 = 1 := by kernel_rfl
  have g2 : DataW.trod en Tryz.prog W base sp held k 3 (([c0, c1, c2, c3, c4].drop 2).take (Tryz.prog.cellsOf 3)) = xs[2]? := hf 2 { name := "Line", type := 3, offset := 2, embedded := false, tag := "", pkgPath := "", byteOffset := 24 } rfl
  rw [e2, List.getElem?_eq_getElem (by omega)] at g2
  have e3 : Tryz.prog.cellsOf 63 = 1 := by kernel_rfl
  have g3 : DataW.trod en Tryz.prog W base sp held k 63 (([c0, c1, c2, c3, c4].drop 3).take (Tryz.prog.cellsOf 63)) = xs[3]? := hf 3 { name := "Size", type := 63, offset := 3, embedded := false, tag := "", pkgPath := "", byteOffset := 32 } rfl
  rw [e3, List.getElem?_eq_getElem (by omega)] at g3
  have e4 : Tryz.prog.cellsOf 29 = 1 := by kernel_rfl
  have g4 : DataW.trod en Tryz.prog W base sp held k 29 (([c0, c1, c2, c3, c4].drop 4).take (Tryz.prog.cellsOf 29)) = xs[4]? := hf 4 { name := "Cores", type := 29, offset := 4, embedded := false, tag := "", pkgPath := "", byteOffset := 40 } rfl
  rw [e4, List.getElem?_eq_getElem (by omega)] at g4
  obtain ⟨x0, h0⟩ := read_s g0
  obtain ⟨x1, h1, i1⟩ := read_i g1
  obtain ⟨x2, h2, i2⟩ := read_i g2
  obtain ⟨x3, h3, i3⟩ := read_u g3
  have g4 : DataW.trod en Tryz.prog W base sp held k 29 [c4] = some _ := g4
  obtain ⟨x4, r4, i4⟩ := read_intsK g4
  obtain ⟨va, vm, vc, rfl, -⟩ := r4.shape
  simp only [List.drop_zero, List.take_succ_cons, List.take_zero, List.drop_succ_cons, List.cons.injEq, and_true] at h0
  subst h0
  simp only [List.drop_zero, List.take_succ_cons, List.take_zero, List.drop_succ_cons, List.cons.injEq, and_true] at h1
  subst h1
  simp only [List.drop_zero, List.take_succ_cons, List.take_zero, List.drop_succ_cons, List.cons.injEq, and_true] at h2
  subst h2
  simp only [List.drop_zero, List.take_succ_cons, List.take_zero, List.drop_succ_cons, List.cons.injEq, and_true] at h3
  subst h3
  exact ⟨⟨x0, x1, x2, x3, va, vm, vc, x4⟩, rfl, r4, i1, i2, i3, i4⟩
instance : Inhabited CoreT := ⟨⟨0, 0, 0, 0⟩⟩
/-- Every number of a description is what its type says. -/
structure HwIn64 (H : HwT) : Prop where
  c : ∀ x ∈ H.Cores, okI x.ID ∧ okI x.Width ∧ okI x.Node ∧ okI x.Speed
  h : ∀ x ∈ H.Caches, okI x.Level ∧ okI x.Line ∧ wideI x.Size ∧ ∀ v ∈ x.Cores, okI v
  l : ∀ x ∈ H.Links, okI x.A ∧ okI x.B ∧ okI x.Latency
  m : ∀ x ∈ H.Mems, wideI x.Base ∧ wideI x.Size ∧ okI x.Node ∧ okI x.Latency
  d : ∀ x ∈ H.Devs, okI x.Node ∧ okI x.IRQ ∧ wideI x.Base ∧ wideI x.Size
theorem HwIn64.memWide {H : HwT} (h : HwIn64 H) : MemWide H := fun x hx => by have := (h.m x hx).1; unfold wideI at this; unfold u64I; omega
set_option maxRecDepth 100000 in
theorem read_hwV {r : Go.Reach} {b : Nat} {v : Value} {d : DataW H} {pl : List MemPlace} (hk : Value.okWide Tryz.prog W r b 28 v) (h : DataW.Trod en Tryz.prog W base sp held 28 v d pl) : ∃ H : HwT, HwQ (allG W) v H ∧ HwIn64 H := by
  obtain ⟨cs, rfl, -⟩ := okWide_struct Tryz.underlying28 hk
  obtain ⟨n, h⟩ := h
  have h : DataW.trod en Tryz.prog W base sp held n 28 cs.toList = some _ := h
  obtain ⟨xs, k, -, -, hl, hxl, hf⟩ := DataW.trod_struct Tryz.underlying28 h
  have hl : cs.toList.length = 6 := hl.trans (by kernel_rfl)
  obtain ⟨c0, c1, c2, c3, c4, c5, hcs⟩ := list6 cs.toList hl
  have hxl : xs.length = 6 := hxl
  rw [hcs] at hf
  have e0 : Tryz.prog.cellsOf 9 = 1 := by kernel_rfl
  have g0 : DataW.trod en Tryz.prog W base sp held k 9 (([c0, c1, c2, c3, c4, c5].drop 0).take (Tryz.prog.cellsOf 9)) = xs[0]? := hf 0 { name := "Name", type := 9, offset := 0, embedded := false, tag := "", pkgPath := "", byteOffset := 0 } rfl
  rw [e0, List.getElem?_eq_getElem (by omega)] at g0
  have e1 : Tryz.prog.cellsOf 22 = 1 := by kernel_rfl
  have g1 : DataW.trod en Tryz.prog W base sp held k 22 (([c0, c1, c2, c3, c4, c5].drop 1).take (Tryz.prog.cellsOf 22)) = xs[1]? := hf 1 { name := "Cores", type := 22, offset := 1, embedded := false, tag := "", pkgPath := "", byteOffset := 16 } rfl
  rw [e1, List.getElem?_eq_getElem (by omega)] at g1
  have e2 : Tryz.prog.cellsOf 23 = 1 := by kernel_rfl
  have g2 : DataW.trod en Tryz.prog W base sp held k 23 (([c0, c1, c2, c3, c4, c5].drop 2).take (Tryz.prog.cellsOf 23)) = xs[2]? := hf 2 { name := "Caches", type := 23, offset := 2, embedded := false, tag := "", pkgPath := "", byteOffset := 40 } rfl
  rw [e2, List.getElem?_eq_getElem (by omega)] at g2
  have e3 : Tryz.prog.cellsOf 24 = 1 := by kernel_rfl
  have g3 : DataW.trod en Tryz.prog W base sp held k 24 (([c0, c1, c2, c3, c4, c5].drop 3).take (Tryz.prog.cellsOf 24)) = xs[3]? := hf 3 { name := "Links", type := 24, offset := 3, embedded := false, tag := "", pkgPath := "", byteOffset := 64 } rfl
  rw [e3, List.getElem?_eq_getElem (by omega)] at g3
  have e4 : Tryz.prog.cellsOf 25 = 1 := by kernel_rfl
  have g4 : DataW.trod en Tryz.prog W base sp held k 25 (([c0, c1, c2, c3, c4, c5].drop 4).take (Tryz.prog.cellsOf 25)) = xs[4]? := hf 4 { name := "Memories", type := 25, offset := 4, embedded := false, tag := "", pkgPath := "", byteOffset := 88 } rfl
  rw [e4, List.getElem?_eq_getElem (by omega)] at g4
  have e5 : Tryz.prog.cellsOf 26 = 1 := by kernel_rfl
  have g5 : DataW.trod en Tryz.prog W base sp held k 26 (([c0, c1, c2, c3, c4, c5].drop 5).take (Tryz.prog.cellsOf 26)) = xs[5]? := hf 5 { name := "Devices", type := 26, offset := 5, embedded := false, tag := "", pkgPath := "", byteOffset := 112 } rfl
  rw [e5, List.getElem?_eq_getElem (by omega)] at g5
  obtain ⟨s, hs⟩ := read_s g0
  simp only [List.drop_zero, List.take_succ_cons, List.take_zero, List.cons.injEq, and_true] at hs
  subst hs
  have g1 : DataW.trod en Tryz.prog W base sp held k 22 [c1] = some _ := g1
  have g2 : DataW.trod en Tryz.prog W base sp held k 23 [c2] = some _ := g2
  have g3 : DataW.trod en Tryz.prog W base sp held k 24 [c3] = some _ := g3
  have g4 : DataW.trod en Tryz.prog W base sp held k 25 [c4] = some _ := g4
  have g5 : DataW.trod en Tryz.prog W base sp held k 26 [c5] = some _ := g5
  obtain ⟨x1, r1, i1⟩ := read_slice (F := fun x : CoreT => enc x) (sz := 4) (e := 53) (by kernel_rfl) (by decide) (fun x => rfl) Tryz.underlying22 (fun h => read_core h) g1
  obtain ⟨x2, r2, i2⟩ := read_slice (F := cC) (sz := 5) (e := 65) (by kernel_rfl) (by decide) (fun x => rfl) Tryz.underlying23 (fun h => read_cache h) g2
  obtain ⟨x3, r3, i3⟩ := read_slice (F := fun x : LinkT => enc x) (sz := 3) (e := 56) (by kernel_rfl) (by decide) (fun x => rfl) Tryz.underlying24 (fun h => read_link h) g3
  obtain ⟨x4, r4, i4⟩ := read_slice (F := fun x : MemT => enc x) (sz := 5) (e := 67) (by kernel_rfl) (by decide) (fun x => rfl) Tryz.underlying25 (fun h => read_mem h) g4
  obtain ⟨x5, r5, i5⟩ := read_slice (F := fun x : DevT => enc x) (sz := 5) (e := 69) (by kernel_rfl) (by decide) (fun x => rfl) Tryz.underlying26 (fun h => read_dev h) g5
  obtain ⟨a1, n1, k1, rfl, -⟩ := r1.shape
  obtain ⟨a2, n2, k2, rfl, -⟩ := r2.shape
  obtain ⟨a3, n3, k3, rfl, -⟩ := r3.shape
  obtain ⟨a4, n4, k4, rfl, -⟩ := r4.shape
  obtain ⟨a5, n5, k5, rfl, -⟩ := r5.shape
  refine ⟨⟨s, x1, x2.map CacheH.T, x3, x4, x5⟩, ⟨a1, n1, k1, a2, n2, k2, a3, n3, k3, a4, n4, k4, a5, n5, k5, x2, ?_, rfl, fun c hc => (i2 c hc).1, r1, r2, r3, r4, r5⟩, i1, fun x hx => ?_, i3, i4, i5⟩
  · have : cs = #[.string s, .slice a1 n1 k1, .slice a2 n2 k2, .slice a3 n3 k3, .slice a4 n4 k4, .slice a5 n5 k5] := by
      apply Array.toList_inj.1; exact hcs
    rw [this]
  · obtain ⟨c, hc, rfl⟩ := List.mem_map.1 hx
    exact (i2 c hc).2
theorem read_edge {n : Nat} {cs : List Value} {y : DataW H × List MemPlace} (h : DataW.trod en Tryz.prog W base sp held n 60 cs = some y) : ∃ x : Pl, cs = plV x ∧ True := by
  obtain ⟨xs, k, -, -, hl, hxl, hf⟩ := DataW.trod_struct Tryz.underlying60 h
  have hl : cs.length = 2 := hl.trans (by kernel_rfl)
  obtain ⟨c0, c1, rfl⟩ := list2 cs hl
  have hxl : xs.length = 2 := hxl
  have e0 : Tryz.prog.cellsOf 3 = 1 := by kernel_rfl
  have g0 : DataW.trod en Tryz.prog W base sp held k 3 (([c0, c1].drop 0).take (Tryz.prog.cellsOf 3)) = xs[0]? := hf 0 { name := "From", type := 3, offset := 0, embedded := false, tag := "", pkgPath := "", byteOffset := 0 } rfl
  rw [e0, List.getElem?_eq_getElem (by omega)] at g0
  have g1 : DataW.trod en Tryz.prog W base sp held k 3 (([c0, c1].drop 1).take (Tryz.prog.cellsOf 3)) = xs[1]? := hf 1 { name := "To", type := 3, offset := 1, embedded := false, tag := "", pkgPath := "", byteOffset := 8 } rfl
  rw [e0, List.getElem?_eq_getElem (by omega)] at g1
  obtain ⟨x0, h0, i0⟩ := read_i g0
  obtain ⟨x1, h1, i1⟩ := read_i g1
  simp only [List.drop_zero, List.take_succ_cons, List.take_zero, List.drop_succ_cons, List.cons.injEq, and_true] at h0
  subst h0
  simp only [List.drop_zero, List.take_succ_cons, List.take_zero, List.drop_succ_cons, List.cons.injEq, and_true] at h1
  subst h1
  exact ⟨(x0, x1), rfl, trivial⟩
set_option maxRecDepth 100000 in
/-- A tree that is given. -/
theorem read_tree {r : Go.Reach} {b : Nat} {v : Value} {d : DataW H} {pl : List MemPlace} (hk : Value.okWide Tryz.prog W r b 32 v) (h : DataW.Trod en Tryz.prog W base sp held 32 v d pl) : ∃ (x : Int) (s : Value) (es : List Pl), v = .agg #[.int .i64 x, s] ∧ RepS (allG W) s 2 (es.map plV) := by
  obtain ⟨cs, rfl, -⟩ := okWide_struct Tryz.underlying32 hk
  obtain ⟨n, h⟩ := h
  have h : DataW.trod en Tryz.prog W base sp held n 32 cs.toList = some _ := h
  obtain ⟨xs, k, -, -, hl, hxl, hf⟩ := DataW.trod_struct Tryz.underlying32 h
  have hl : cs.toList.length = 2 := hl.trans (by kernel_rfl)
  obtain ⟨c0, c1, hcs⟩ := list2 cs.toList hl
  have hxl : xs.length = 2 := hxl
  rw [hcs] at hf
  have e0 : Tryz.prog.cellsOf 3 = 1 := by kernel_rfl
  have g0 : DataW.trod en Tryz.prog W base sp held k 3 (([c0, c1].drop 0).take (Tryz.prog.cellsOf 3)) = xs[0]? := hf 0 { name := "Root", type := 3, offset := 0, embedded := false, tag := "", pkgPath := "", byteOffset := 0 } rfl
  rw [e0, List.getElem?_eq_getElem (by omega)] at g0
  have e1 : Tryz.prog.cellsOf 30 = 1 := by kernel_rfl
  have g1 : DataW.trod en Tryz.prog W base sp held k 30 (([c0, c1].drop 1).take (Tryz.prog.cellsOf 30)) = xs[1]? := hf 1 { name := "Edges", type := 30, offset := 1, embedded := false, tag := "", pkgPath := "", byteOffset := 8 } rfl
  rw [e1, List.getElem?_eq_getElem (by omega)] at g1
  obtain ⟨x0, h0, -⟩ := read_i g0
  simp only [List.drop_zero, List.take_succ_cons, List.take_zero, List.drop_succ_cons, List.cons.injEq, and_true] at h0
  subst h0
  obtain ⟨es, hr, -⟩ := read_slice (F := plV) (sz := 2) (e := 60) (by kernel_rfl) (by decide) (fun x => rfl) Tryz.underlying30 (fun h => read_edge h) g1
  refine ⟨x0, c1, es, ?_, hr⟩
  have : cs = #[.int .i64 x0, c1] := by apply Array.toList_inj.1; exact hcs
  rw [this]
end
end Go.Proofs.YteiijmclobggjaaGreat
end
/- Maps whose values are slices that are owned. -/
section
open Go
namespace Mk
attribute [local irreducible] Calls
section
variable {α β : Type} [DecidableEq α]
theorem aGet_cons' (a b : α) (v : β) (l : List (α × β)) : aGet ((a, v) :: l) b = if a = b then some v else aGet l b := by
  unfold aGet aIx
  by_cases h : a = b
  · subst h; simp [List.findIdx?_cons]
  · simp only [List.findIdx?_cons, decide_eq_true_eq, h, decide_false, Bool.false_eq_true, if_false]
    cases l.findIdx? (fun p => decide (p.1 = b)) <;> simp
theorem aSet_cons' (a b : α) (v u : β) (l : List (α × β)) : aSet ((a, v) :: l) b u = if a = b then (b, u) :: l else (a, v) :: aSet l b u := by
  unfold aSet aIx
  by_cases h : a = b
  · subst h; simp [List.findIdx?_cons]
  · simp only [List.findIdx?_cons, h, decide_false, Bool.false_eq_true, if_false]
    cases l.findIdx? (fun p => decide (p.1 = b)) <;> simp
theorem aGet_none' {l : List (α × β)} {a : α} : aGet l a = none ↔ a ∉ l.map (·.1) := by
  induction l with
  | nil => simp [aGet, aIx]
  | cons p l ih =>
    obtain ⟨x, v⟩ := p
    rw [aGet_cons']
    by_cases h : x = a
    · simp [h]
    · rw [if_neg h, ih]; simp [Ne.symm h]
theorem aSet_perm {l : List (α × β)} (h : (l.map (·.1)).Nodup) (a : α) (u : β) : (aSet l a u).Perm ((a, u) :: l.filter fun p => !decide (p.1 = a)) := by
  induction l with
  | nil => simp [aSet, aIx]
  | cons p l ih =>
    obtain ⟨x, v⟩ := p
    simp only [List.map_cons, List.nodup_cons] at h
    rw [aSet_cons']
    by_cases e : x = a
    · subst e
      rw [if_pos rfl]
      simp only [List.filter_cons, decide_true, Bool.not_true, Bool.false_eq_true, if_false]
      rw [List.filter_eq_self.2 (fun p hp => by simp; intro e; exact h.1 (e ▸ List.mem_map_of_mem hp))]
    · rw [if_neg e]
      simp only [List.filter_cons, decide_eq_false e, Bool.not_false, if_true]
      exact ((ih h.2).cons _).trans (.swap _ _ _)
theorem aGet_perm {l : List (α × β)} (h : (l.map (·.1)).Nodup) {a : α} {v : β} (hg : aGet l a = some v) : l.Perm ((a, v) :: l.filter fun p => !decide (p.1 = a)) := by
  induction l with
  | nil => simp [aGet, aIx] at hg
  | cons p l ih =>
    obtain ⟨x, u⟩ := p
    simp only [List.map_cons, List.nodup_cons] at h
    rw [aGet_cons'] at hg
    by_cases e : x = a
    · subst e
      rw [if_pos rfl] at hg; cases hg
      simp only [List.filter_cons, decide_true, Bool.not_true, Bool.false_eq_true, if_false]
      rw [List.filter_eq_self.2 (fun p hp => by simp; intro e; exact h.1 (e ▸ List.mem_map_of_mem hp))]
    · rw [if_neg e] at hg
      simp only [List.filter_cons, decide_eq_false e, Bool.not_false, if_true]
      exact ((ih h.2 hg).cons _).trans (.swap _ _ _)
theorem aGet_none_filter {l : List (α × β)} {a : α} (hg : aGet l a = none) : (l.filter fun p => !decide (p.1 = a)) = l :=
  List.filter_eq_self.2 fun p hp => by
    have := aGet_none'.1 hg
    simp; intro e; exact this (e ▸ List.mem_map_of_mem hp)
theorem aSet_keys {l : List (α × β)} (h : (l.map (·.1)).Nodup) (a : α) (u : β) : ((aSet l a u).map (·.1)).Nodup := by
  refine ((aSet_perm h a u).map _).nodup_iff.2 ?_
  simp only [List.map_cons, List.nodup_cons]
  refine ⟨fun hm => ?_, (List.filter_sublist.map _).nodup h⟩
  obtain ⟨p, hp, e⟩ := List.mem_map.1 hm
  have := (List.mem_filter.1 hp).2
  simp [e] at this
theorem aGet_aSet (l : List (α × β)) (a b : α) (u : β) : aGet (aSet l a u) b = if a = b then some u else aGet l b := by
  induction l with
  | nil => simp only [aSet, aIx, List.findIdx?_nil, List.nil_append]; rw [aGet_cons']
  | cons p l ih =>
    obtain ⟨x, v⟩ := p
    rw [aSet_cons']
    by_cases e : x = a
    · subst e; rw [if_pos rfl, aGet_cons', aGet_cons']
      by_cases e2 : x = b <;> simp [e2]
    · rw [if_neg e, aGet_cons', ih, aGet_cons']
      by_cases e2 : x = b
      · subst e2; rw [if_pos rfl, if_pos rfl, if_neg (Ne.symm e)]
      · rw [if_neg e2, if_neg e2]
end

section
variable {P : Program} {n : Nat} {ops : List Oper} {Γ : Gho} {K : List Res} {wr tc stab : List (List Nat)} {Q : Fr → World → Prop} {i : Nat} {rest : List Oper} {ρ : Fr} {M : Nat → Fr → List Res}
variable {ty T : TypeId} {pos : String} {es : Array Edge} {x y : Operand}
/-- The slice that an append has made is put into a map. -/
theorem mPutV {c b j dv : Nat} {l : List (Int × Value)} {a : Int} {k : IntKind} {X : Fr → List Res} {KT ET : TypeId} [hMp : TMap P T KT ET] [hK : TInt P KT k] (h : MSw (mV P n ops Γ K wr tc stab) Q (i + 1) rest ⟨ρ, setC M c fun g => (X g).set j (Res.mpT P KT (id : Value → Value) b (aSet l a (g dv)))⟩)
    (ht : tc.getD i [] = [c] := by exact rfl) (hM : M c = X := by exact rfl) (hj : ∀ g, (X g)[j]? = some (Res.mpT P KT (id : Value → Value) b l) := by intro g; exact byIX) (hw0 : wr.getD i [] = [c] := by exact rfl) (hx : ∀ g, ev (ovr stab.flatten g ρ) x = .map (some b) := by intro g; exact rfl) (hy : ∀ g, ev (ovr stab.flatten g ρ) y = .int k a := by intro g; exact rfl)
    (hs : (stab.getD c []).contains dv = true := by exact rfl) (hfv : stab.flatten.contains dv = true := by exact rfl) :
    MSw (mV P n ops Γ K wr tc stab) Q i (⟨none, .mapUpdate T x y (.tmp dv), ty, pos, es, none⟩ :: rest) ⟨ρ, M⟩ := by
  refine mM (v := undef) _ (fun Y w g hw => ?_) h hw0 rfl
  rw [cells1 ht, hM] at hw
  have hz : ev (ovr stab.flatten g ρ) (.tmp dv) = g dv := ovr_in (by simpa using hfv)
  have hg : ovr (stab.getD c []) g noFr dv = g dv := ovr_in (by simpa using hs)
  have hjl : j < (X (ovr (stab.getD c []) g noFr)).length := (List.getElem?_eq_some_iff.1 (hj _)).1
  refine s_mapUpdate (f := (id : Value → Value)) (v := g dv) hw (hx g) (hy g) hz (i := K.length + j) (by rw [List.getElem?_append_right (Nat.le_add_right _ _), Nat.add_sub_cancel_left, List.getElem?_append_left hjl]; exact hj _) fun w' hw' => ⟨?_, fun _ => rfl⟩
  rw [cells1 ht, setC_self]
  rw [List.set_append_right _ _ (Nat.le_add_right _ _), Nat.add_sub_cancel_left, List.set_append_left _ _ hjl] at hw'
  simp only [putO, hg]
  exact hw'
end

/-- All that is there stands for ever. -/
def hpG (Γ : Gho) (w : World) : Gho := ⟨hp w, Γ.os, Γ.tape, Γ.out, Γ.dr⟩
theorem hpG_le {Γ : Gho} {S : List Res} {w : World} (h : Wd Γ S w) : Γ.le (hpG Γ w) := ⟨h.imm, rfl, rfl, rfl, rfl⟩
theorem hpG_wd {Γ : Gho} {S : List Res} {w : World} (h : Wd Γ S w) : Wd (hpG Γ w) [] w := ⟨h.os, h.tape, h.out, h.dr, fun _ _ h => h, [], trivial, by simp, by simp⟩
theorem Holds.noimm {m m' h} : ∀ (R : List Res) (bss : List (List Nat)), (∀ r ∈ R, ∀ bs, r.holds m bs h → r.holds m' bs h) → Holds m R bss h → Holds m' R bss h
  | [], [], _, _ => trivial
  | r :: R, bs :: bss, hr, hh => ⟨hr r (by simp) bs hh.1, Holds.noimm R bss (fun r h => hr r (by simp [h])) hh.2⟩
  | [], _ :: _, _, hh => hh.elim
  | _ :: _, [], _, hh => hh.elim
/-- A call that was run with all that was there standing for ever keeps what is owned, and what it owns at its end comes to it. -/
theorem wd_keptG {Γ Γ' : Gho} {S R : List Res} {w w' : World} (h : Wd Γ S w) (hle : (hpG Γ w).le Γ') (hR : ∀ r ∈ R, ∀ bs, r.holds Γ'.imm bs (hp w') → r.holds Γ.imm bs (hp w')) (h' : Wd Γ' R w') : Wd Γ (R ++ S) w' := by
  obtain ⟨cs, k6, k7, k8⟩ := h'.own
  have him := h.imm
  obtain ⟨h1, h2, h3, h4, h5, dss, d6, d7, d8⟩ := h
  have hat : ∀ b ∈ dss.flatten, ∃ o, w.heap[b]? = some o := fun b hbm => ⟨_, Array.getElem?_eq_getElem (d8 b hbm).1⟩
  have hnew : ∀ b ∈ cs.flatten, w.heap[b]? = none := fun b hbm => by
    cases hq : w.heap[b]? with
    | none => rfl
    | some o => have := hle.imm b o hq; rw [(k8 b hbm).2] at this; cases this
  have hold : ∀ b ∈ dss.flatten, b ∉ cs.flatten := fun b hbm hbs => by
    obtain ⟨o, ho⟩ := hat b hbm
    rw [hnew b hbs] at ho; cases ho
  have hkeep : ∀ b ∈ dss.flatten, w'.heap[b]? = w.heap[b]? := fun b hbm => by
    obtain ⟨o, ho⟩ := hat b hbm
    rw [ho]; exact h'.imm b o (hle.imm b o ho)
  refine ⟨h'.os.trans hle.os, h'.tape.trans hle.tape, h'.out.trans hle.out, by have := h'.dr; rw [hle.dr] at this; exact this, fun b o hb => h'.imm b o (hle.imm b o (him b o hb)), cs ++ dss, Holds.append _ _ _ _ (Holds.noimm R cs hR k6) (Holds.loc (fun b o h => h) S dss hkeep d6), ?_, ?_⟩
  · rw [List.flatten_append, List.nodup_append]
    exact ⟨k7, d7, fun a ha b hb' e => hold b hb' (e ▸ ha)⟩
  · intro b hbm
    rw [List.flatten_append, List.mem_append] at hbm
    rcases hbm with hbm | hbm
    · refine ⟨(k8 b hbm).1, ?_⟩
      cases hq : Γ.imm b with
      | none => rfl
      | some o => have := him b o hq; rw [hnew b hbm] at this; cases this
    · obtain ⟨o, ho⟩ := hat b hbm
      have := hkeep b hbm
      rw [ho] at this
      exact ⟨(Array.getElem?_eq_some_iff.1 this).1, (d8 b hbm).2⟩
theorem own_noimm {m m' : Hp} {h : Hp} {v : Value} {e sz : Nat} {rows : List (List Value)} : ∀ r ∈ [Res.own v e sz rows], ∀ bs, r.holds m bs h → r.holds m' bs h := fun r hr bs hh => by
  simp only [List.mem_singleton] at hr
  subst hr
  unfold Res.own at hh ⊢
  exact hh
/-- Slices that are owned are given out. -/
theorem freeze_list {α : Type} {f : α → Value} {e sz : Nat} {g : α → List (List Value)} {S : List Res} {w : World} : ∀ (l : List α) {Γ : Gho}, Wd Γ (l.map (fun x => Res.own (f x) e sz (g x)) ++ S) w → ∃ Γ', Γ.le Γ' ∧ (∀ x ∈ l, RepS Γ' (f x) sz (g x)) ∧ Wd Γ' S w
  | [], Γ, hw => ⟨Γ, .refl _, by simp, hw⟩
  | x :: l, Γ, hw => by
    obtain ⟨Γ1, h1, h2, hw⟩ := Wd.freeze (S := l.map (fun x => Res.own (f x) e sz (g x)) ++ S) hw
    obtain ⟨Γ2, h3, h4, hw⟩ := freeze_list l hw
    refine ⟨Γ2, h1.trans h3, fun y hy => ?_, hw⟩
    rcases List.mem_cons.1 hy with rfl | hy
    · exact h2.mono h3
    · exact h4 y hy
theorem repS_nil {Γ : Gho} {a : Option Addr} {sz : Nat} : RepS Γ (.slice a 0 0) sz [] := by
  unfold RepS
  exact ⟨by simp, a, 0, 0, rfl, rfl, Nat.le_refl _, by simp, fun h => by simp at h⟩
end Mk
end
/- The neighbours of each node. -/
section
open Go Mk
namespace Go.Proofs.YteiijmclobggjaaGreat
set_option maxHeartbeats 4000000
attribute [local irreducible] Calls
def nbrL (ls : List LinkT) (x : Int) : List Pl := ls.flatMap fun l => (if l.A = x then [(l.B, l.Latency)] else []) ++ (if l.B = x then [(l.A, l.Latency)] else [])
def addN (N : Int → List Pl) (a : Int) (p : Pl) : Int → List Pl := fun x => if a = x then N x ++ [p] else N x
theorem nbrL_step {ls : List LinkT} {k : Nat} {l : LinkT} (h : ls[k]? = some l) : addN (addN (nbrL (ls.take k)) l.A (l.B, l.Latency)) l.B (l.A, l.Latency) = nbrL (ls.take (k + 1)) := by
  funext x
  rw [take_succ_of h]
  unfold addN nbrL
  simp only [List.flatMap_append, List.flatMap_cons, List.flatMap_nil, List.append_nil]
  by_cases h1 : l.A = x <;> by_cases h2 : l.B = x <;> simp [h1, h2]

/-- A map from numbers to slices of places that are owned. -/
abbrev adjM (bm : Nat) (l : List (Int × Value)) : Res := Res.mpT Tryz.prog 3 (id : Value → Value) bm l
def plO (N : Int → List Pl) (e : Int × Value) : Res := .own e.2 109 2 ((N e.1).map plV)
def AdjS (Γ : Gho) (S : List Res) (bm : Nat) (N : Int → List Pl) (w : World) : Prop :=
  ∃ l : List (Int × Value), (l.map (·.1)).Nodup ∧ (∀ x, aGet l x = none → N x = []) ∧ Wd Γ (adjM bm l :: (l.map (plO N) ++ S)) w
def restL (l : List (Int × Value)) (a : Int) : List (Int × Value) := l.filter fun p => !decide (p.1 = a)
def zeroOr (l : List (Int × Value)) (a : Int) (v : Value) : Prop := aGet l a = some v ∨ (aGet l a = none ∧ v = .slice none 0 0)

theorem adj_open {Γ : Gho} {S : List Res} {bm : Nat} {N : Int → List Pl} {w : World} {l : List (Int × Value)} (hn : (l.map (·.1)).Nodup) (h0 : ∀ x, aGet l x = none → N x = []) (hw : Wd Γ (adjM bm l :: (l.map (plO N) ++ S)) w) (a : Int) :
    ∃ v, zeroOr l a v ∧ Wd Γ (adjM bm l :: .own v 109 2 ((N a).map plV) :: ((restL l a).map (plO N) ++ S)) w := by
  cases hg : aGet l a with
  | some v =>
    refine ⟨v, .inl hg, hw.perm (List.Perm.cons _ ?_)⟩
    exact ((aGet_perm hn hg).map (plO N)).append_right S
  | none =>
    refine ⟨.slice none 0 0, .inr ⟨hg, rfl⟩, ?_⟩
    have h1 := (Wd.addNil (a := none) (E := 109) (sz := 2) hw).ps [1]
    rw [h0 a hg]
    have : restL l a = l := aGet_none_filter hg
    rw [this]
    exact h1
theorem adj_close {Γ : Gho} {S : List Res} {bm : Nat} {N : Int → List Pl} {w : World} {l : List (Int × Value)} {a : Int} {p : Pl} {v : Value} (hn : (l.map (·.1)).Nodup) (h0 : ∀ x, aGet l x = none → N x = []) (hw : Wd Γ (adjM bm (aSet l a v) :: .own v 109 2 ((N a).map plV ++ [plV p]) :: ((restL l a).map (plO N) ++ S)) w) :
    AdjS Γ S bm (addN N a p) w := by
  refine ⟨aSet l a v, aSet_keys hn a v, fun x hx => ?_, hw.perm (List.Perm.cons _ ?_)⟩
  · rw [aGet_aSet] at hx
    by_cases e : a = x
    · rw [if_pos e] at hx; cases hx
    · rw [if_neg e] at hx
      unfold addN; rw [if_neg e]; exact h0 x hx
  · have h1 : (restL l a).map (plO N) = (restL l a).map (plO (addN N a p)) := List.map_congr_left fun e he => by
      have := (List.mem_filter.1 he).2
      unfold plO addN
      rw [if_neg (by intro h; simp [h] at this)]
    have h2 : Res.own v 109 2 ((N a).map plV ++ [plV p]) = plO (addN N a p) (a, v) := by
      unfold plO addN; simp
    rw [h1, h2]
    exact (((aSet_perm hn a v).map (plO (addN N a p))).append_right S).symm
theorem adj_front {Γ : Gho} {S R : List Res} {A B b : Res} {w : World} (hw : Wd Γ (A :: B :: (R ++ b :: S)) w) : Wd Γ (b :: A :: B :: (R ++ S)) w :=
  hw.perm (((List.perm_middle.cons _).cons _).trans (((List.Perm.swap _ _ _).cons _).trans (.swap _ _ _)))
theorem adj_back {Γ : Gho} {S R : List Res} {A B b : Res} {w : World} (hw : Wd Γ (b :: A :: B :: (R ++ S)) w) : Wd Γ (A :: B :: (R ++ b :: S)) w :=
  hw.perm (((List.perm_middle.cons _).cons _).trans (((List.Perm.swap _ _ _).cons _).trans (.swap _ _ _))).symm
theorem nbr_len {ls : List LinkT} {x : Int} : (nbrL ls x).length ≤ 2 * ls.length := by
  induction ls with
  | nil => simp [nbrL]
  | cons l ls ih =>
    have : nbrL (l :: ls) x = ((if l.A = x then [(l.B, l.Latency)] else []) ++ (if l.B = x then [(l.A, l.Latency)] else [])) ++ nbrL ls x := by simp [nbrL]
    rw [this]
    simp only [List.length_append, List.length_cons]
    split <;> split <;> simp <;> omega
theorem addN_len {N : Int → List Pl} {a x : Int} {p : Pl} : (addN N a p x).length ≤ (N x).length + 1 := by
  unfold addN; split <;> simp
theorem AdjS.drop {Γ : Gho} {S : List Res} {b : Res} {bm : Nat} {N : Int → List Pl} {w : World} (h : AdjS Γ (b :: S) bm N w) : AdjS Γ S bm N w := by
  obtain ⟨l, h1, h2, hw⟩ := h
  exact ⟨l, h1, h2, (hw.perm ((List.perm_middle.cons _).trans (.swap _ _ _))).drop⟩
theorem y_lookupZ {Γ : Gho} {S : List Res} {w : World} {ρ : Fr} {d : Option Tmp} {T ty ET : TypeId} {pos : String} {es : Array Edge} {g : Option (Nat × Bool)} {x y : Operand} {l : List (Int × Value)} {a : Int} {v : Value} {bm i : Nat} [hM : TMap Tryz.prog T 3 ET] [hz : TZV Tryz.prog ET (.slice none 0 0)] (hw : Wd Γ S w) (hv : zeroOr l a v) (hi : S[i]? = some (adjM bm l)) (hx : ev ρ x = .map (some bm)) (hy : ev ρ y = .int .i64 a) :
    Mk.Yields Tryz.prog ⟨d, .lookup T x y false, ty, pos, es, g⟩ ρ w v := by
  rcases hv with hv | ⟨hv, rfl⟩
  · exact y_lookup_some (f := (id : Value → Value)) hw hx hy hi hv false
  · exact y_lookup_none (f := (id : Value → Value)) hw hx hy hi hv false

theorem neighbours_any {Γ : Gho} {u : Value} {H : HwT} [hh : HwR Γ u H] (hc : H.Links.length ≤ 1000) {S : List Res} {w : World} (hw : Wd Γ S w) :
    Calls Tryz.prog 55 #[u] w fun e w' => ∃ bm, e = .returned (.map (some bm)) ∧ AdjS Γ S bm (nbrL H.Links) w' := by
  obtain ⟨a1, n1, c1, a2, n2, c2, a3, n3, c3, a4, n4, c4, a5, n5, c5, cs, rfl, hcs, hok, hsz, r1, r2, r3, r4, r5⟩ := hh.h
  obtain ⟨hn3, hm3, hx3⟩ := rep_facts r3
  simp only [List.length_map] at hn3
  refine calls_of_W Tryz.func55 rfl rfl ?_
  repeat (first | refine byW ?_ | (refine byV ?_; intro w hw))
  refine lBox ?_
  intro b1 w hw
  repeat (first | refine byW ?_ | (refine byV ?_; intro w hw))
  refine L_step rfl rfl (s_makeMap (K := 3) (α := Int) (f := (id : Value → Value)) hw fun bm w hw => ?_)
  have hw := hw.ps [1]
  have hw : Wd Γ (.blk b1 (.cells #[.string H.Name, .slice a1 n1 c1, .slice a2 n2 c2, .slice a3 n3 c3, .slice a4 n4 c4, .slice a5 n5 c5] 28) :: adjM bm [] :: S) w := hw
  repeat (first | refine byW ?_ | (refine byV ?_; intro w hw))
  refine W_loop (fun μ ρ w => ∃ (k : Nat), μ + k = n3 ∧ Has ρ [(1, .pointer (some ⟨b1, 0, none⟩)), (3, .map (some bm)), (8, .slice a3 n3 c3), (9, .int .i64 n3), (10, .int .i64 k)] ∧ AdjS Γ (.blk b1 (.cells #[.string H.Name, .slice a1 n1 c1, .slice a2 n2 c2, .slice a3 n3 c3, .slice a4 n4 c4, .slice a5 n5 c5] 28) :: S) bm (nbrL (H.Links.take k)) w) n3 ⟨0, by omega, ⟨rfl, rfl, rfl, rfl, rfl, trivial⟩, [], by simp, fun _ _ => rfl, hw.ps [1]⟩ ?_
  clear hw
  rintro μ ρ w ⟨k, hk, hρ, l, hnd, h0, hw⟩
  rw [hρ.eq]
  clear hρ
  repeat (first | refine byW ?_ | (refine byV ?_; intro w hw))
  refine W_cond rfl (fun h => ?_) (fun h => ?_)
  · have hkn : k < n3 := by have := of_decide_eq_true h; omega
    clear h
    obtain ⟨x, hx⟩ := get_lt (l := H.Links) (k := k) (by omega)
    repeat (first | refine byW ?_ | (refine byV ?_; intro w hw))
    refine lAlloc ?_
    intro b5 w hw
    refine lStore ?_
    intro w hw
    have hw : Wd Γ (.blk b5 (.cells (enc x).toArray 56) :: adjM bm l :: (l.map (plO (nbrL (H.Links.take k))) ++ (.blk b1 (.cells #[.string H.Name, .slice a1 n1 c1, .slice a2 n2 c2, .slice a3 n3 c3, .slice a4 n4 c4, .slice a5 n5 c5] 28) :: S))) w := hw
    replace hw := hw.perm ((List.Perm.swap _ _ _).trans (List.Perm.cons _ List.perm_middle.symm))
    obtain ⟨v, hv, hw⟩ := adj_open hnd h0 hw x.A
    obtain ⟨a0, m0, c0, rfl, hm0, hmc0, -⟩ := hw.own_shape (i := 1) rfl
    simp only [List.length_map] at hm0
    have hlen : m0 ≤ 4000 := by rw [hm0]; have := nbr_len (ls := H.Links.take k) (x := x.A); simp at this; omega
    have hw := adj_front hw
    repeat (first | refine byW ?_ | (refine byV ?_; intro w hw))
    refine W_mix2 [.blk b5 (.cells (enc x).toArray 56)] _ [[],[],[],[],[],[],[],[],[],[],[],[],[1],[0],[0]] [[],[],[],[],[],[],[0],[],[],[],[],[],[1],[0,1],[0]] [[27], [26]] hw ?_
    repeat (first | refine mY ?_ | refine mP ?_ | refine mPg ?_)
    refine mY (v := .slice a0 m0 c0) ?_ (hy := fun Y w g hw => y_lookupZ hw hv (i := 1) rfl rfl rfl)
    repeat (first | refine mY ?_ | refine mP ?_ | refine mPg ?_)
    refine mY (v := .agg (plV (x.B, x.Latency)).toArray) ?_ (hy := fun Y w g hw => y_build rfl)
    refine mBuild [plV (x.B, x.Latency)] ?_
    refine mApp (j := 1) ?_
    refine mPutV (j := 0) ?_
    refine mEnd fun w g hw => ?_
    have hw := Wd.dropEnd hw
    have hw : Wd Γ (.blk b5 (.cells (enc x).toArray 56) :: adjM bm (aSet l x.A (g 27)) :: .own (g 27) 109 2 ((nbrL (H.Links.take k) x.A).map plV ++ [plV (x.B, x.Latency)]) :: ((restL l x.A).map (plO (nbrL (H.Links.take k))) ++ .blk b1 (.cells #[.string H.Name, .slice a1 n1 c1, .slice a2 n2 c2, .slice a3 n3 c3, .slice a4 n4 c4, .slice a5 n5 c5] 28) :: S)) w := hw
    have hA := adj_close hnd h0 (adj_back hw)
    generalize g 27 = gg at *
    obtain ⟨l, hnd, h0, hw⟩ := hA
    obtain ⟨v, hv, hw⟩ := adj_open hnd h0 hw x.B
    obtain ⟨a0, m0, c0, rfl, hm0, hmc0, -⟩ := hw.own_shape (i := 1) rfl
    simp only [List.length_map] at hm0
    have hlen : m0 ≤ 4000 := by rw [hm0]; have := addN_len (N := nbrL (H.Links.take k)) (a := x.A) (p := (x.B, x.Latency)) (x := x.B) ; have := nbr_len (ls := H.Links.take k) (x := x.B); simp at this; omega
    have hw := adj_front hw
    repeat (first | refine byW ?_ | (refine byV ?_; intro w hw))
    refine W_mix2 [.blk b5 (.cells (enc x).toArray 56)] _ [[],[],[],[],[],[],[],[],[],[],[],[],[1],[0],[0]] [[],[],[],[],[],[],[0],[],[],[],[],[],[1],[0,1],[0]] [[41], [40]] hw ?_
    repeat (first | refine mY ?_ | refine mP ?_ | refine mPg ?_)
    refine mY (v := .slice a0 m0 c0) ?_ (hy := fun Y w g hw => y_lookupZ hw hv (i := 1) rfl rfl rfl)
    repeat (first | refine mY ?_ | refine mP ?_ | refine mPg ?_)
    refine mY (v := .agg (plV (x.A, x.Latency)).toArray) ?_ (hy := fun Y w g hw => y_build rfl)
    refine mBuild [plV (x.A, x.Latency)] ?_
    refine mApp (j := 1) ?_
    refine mPutV (j := 0) ?_
    refine mEnd fun w g hw => ?_
    have hw := Wd.dropEnd hw
    have hw : Wd Γ (.blk b5 (.cells (enc x).toArray 56) :: adjM bm (aSet l x.B (g 41)) :: .own (g 41) 109 2 ((addN (nbrL (H.Links.take k)) x.A (x.B, x.Latency) x.B).map plV ++ [plV (x.A, x.Latency)]) :: ((restL l x.B).map (plO (addN (nbrL (H.Links.take k)) x.A (x.B, x.Latency))) ++ .blk b1 (.cells #[.string H.Name, .slice a1 n1 c1, .slice a2 n2 c2, .slice a3 n3 c3, .slice a4 n4 c4, .slice a5 n5 c5] 28) :: S)) w := hw
    have hA := adj_close hnd h0 (adj_back hw)
    generalize g 41 = gg at *
    have hA := AdjS.drop hA
    rw [nbrL_step hx] at hA
    repeat (first | refine byW ?_ | (refine byV ?_; intro w hw))
    exact ⟨μ - 1, by omega, k + 1, by omega, ⟨rfl, rfl, rfl, rfl, rfl, trivial⟩, hA⟩
  · have hkn : ¬ k < n3 := by have := of_decide_eq_false h; omega
    have hA : AdjS Γ (.blk b1 (.cells #[.string H.Name, .slice a1 n1 c1, .slice a2 n2 c2, .slice a3 n3 c3, .slice a4 n4 c4, .slice a5 n5 c5] 28) :: S) bm (nbrL (H.Links.take k)) w := ⟨l, hnd, h0, hw⟩
    rw [List.take_of_length_le (by omega)] at hA
    repeat (first | refine byW ?_ | (refine byV ?_; intro w hw))
    exact ⟨_, rfl, bm, rfl, hA.drop⟩
end Go.Proofs.YteiijmclobggjaaGreat
end
/- Shortest ways: what the search keeps true. -/
section
namespace Go.Proofs.YteiijmclobggjaaGreat

/-- There is a way from s to x of length d. -/
inductive Way (nb : Int → List Pl) (s : Int) : Int → Int → Prop
  | refl : Way nb s s 0
  | step {x d : Int} {q : Pl} : Way nb s x d → q ∈ nb x → Way nb s q.1 (d + q.2)
def oat (O : List Int) (x : Int) : Int := O.getD x.toNat (-1)
/-- d is the distance of x from s, or -1. -/
def Dst (nb : Int → List Pl) (s x d : Int) : Prop := (0 ≤ d ∧ Way nb s x d ∧ ∀ d', Way nb s x d' → d ≤ d') ∨ (d = -1 ∧ ∀ d', ¬ Way nb s x d')
theorem Dst.uniq {nb : Int → List Pl} {s x d e : Int} (h : Dst nb s x d) (k : Dst nb s x e) : d = e := by
  rcases h with ⟨h0, h1, h2⟩ | ⟨h1, h2⟩ <;> rcases k with ⟨k0, k1, k2⟩ | ⟨k1, k2⟩
  · have := h2 _ k1; have := k2 _ h1; omega
  · exact (k2 _ h1).elim
  · exact (h2 _ k1).elim
  · rw [h1, k1]
structure NbOk (nb : Int → List Pl) (s L : Int) : Prop where
  rng : ∀ x, ∀ q ∈ nb x, 0 ≤ q.1 ∧ q.1 < 64 ∧ 0 ≤ q.2 ∧ q.2 ≤ L
  st : 0 ≤ s ∧ s < 64
theorem Way.nonneg {nb : Int → List Pl} {s L : Int} (hn : NbOk nb s L) {x d : Int} (h : Way nb s x d) : 0 ≤ d := by
  induction h with
  | refl => omega
  | step _ hq ih => have := hn.rng _ _ hq; omega
theorem Way.rng {nb : Int → List Pl} {s L : Int} (hn : NbOk nb s L) {x d : Int} (h : Way nb s x d) : 0 ≤ x ∧ x < 64 := by
  cases h with
  | refl => exact hn.st
  | step _ hq => have := hn.rng _ _ hq; omega

structure Dij (nb : Int → List Pl) (s : Int) (O : List Int) (xs : List Pl) : Prop where
  len : O.length = 64
  neg : ∀ x, oat O x = -1 ∨ 0 ≤ oat O x
  way : ∀ p ∈ xs, Way nb s p.1 p.2
  done : ∀ x, 0 ≤ x → x < 64 → 0 ≤ oat O x → Way nb s x (oat O x) ∧ ∀ d, Way nb s x d → oat O x ≤ d
  closed : ∀ x, 0 ≤ x → x < 64 → 0 ≤ oat O x → ∀ q ∈ nb x, 0 ≤ oat O q.1 ∨ (q.1, oat O x + q.2) ∈ xs
  start : 0 ≤ oat O s ∨ (s, 0) ∈ xs
section
variable {nb : Int → List Pl} {s L : Int} {O : List Int} {xs ys : List Pl}
theorem oat_none (x : Int) : oat (List.replicate 64 (-1)) x = -1 := by
  unfold oat
  rw [List.getD_eq_getElem?_getD, List.getElem?_replicate]
  split <;> rfl
theorem oat_set {d p : Int} (hl : O.length = 64) (h0 : 0 ≤ p) (h1 : p < 64) {x : Int} (hx : 0 ≤ x) : oat (O.set p.toNat d) x = if x = p then d else oat O x := by
  unfold oat
  rw [List.getD_eq_getElem?_getD, List.getElem?_set, List.getD_eq_getElem?_getD]
  by_cases e : x = p
  · subst e
    rw [if_pos rfl, if_pos rfl, if_pos (by omega)]; rfl
  · rw [if_neg e, if_neg (by omega)]
theorem Dij.init : Dij nb s (List.replicate 64 (-1)) [(s, 0)] where
  len := by simp
  neg x := .inl (oat_none x)
  way p hp := by simp at hp; subst hp; exact .refl
  done x _ _ h := by rw [oat_none] at h; omega
  closed x _ _ h := by rw [oat_none] at h; omega
  start := .inr (by simp)
theorem Dij.reach (hn : NbOk nb s L) (h : Dij nb s O xs) {x d : Int} (hw : Way nb s x d) : 0 ≤ oat O x ∨ ∃ q ∈ xs, q.2 ≤ d := by
  induction hw with
  | refl =>
    rcases h.start with h1 | h1
    · exact .inl h1
    · exact .inr ⟨_, h1, Int.le_refl _⟩
  | @step x d q hx hq ih =>
    have hr := hn.rng _ _ hq
    rcases ih with ih | ⟨p, hp, hd⟩
    · obtain ⟨h0, h1⟩ := hx.rng hn
      rcases h.closed x h0 h1 ih q hq with h2 | h2
      · exact .inl h2
      · have := (h.done x h0 h1 ih).2 d hx
        exact .inr ⟨_, h2, by show oat O x + q.2 ≤ d + q.2; omega⟩
    · exact .inr ⟨p, hp, by omega⟩
theorem Dij.skip (h : Dij nb s O xs) {p : Pl} (hp : (p :: ys).Perm xs) (hs : 0 ≤ oat O p.1) : Dij nb s O ys where
  len := h.len
  neg := h.neg
  way q hq := h.way q (hp.mem_iff.1 (by simp [hq]))
  done := h.done
  closed x h0 h1 hx q hq := by
    rcases h.closed x h0 h1 hx q hq with h2 | h2
    · exact .inl h2
    · rcases List.mem_cons.1 (hp.mem_iff.2 h2) with h3 | h3
      · left; rw [← h3] at hs; exact hs
      · exact .inr h3
  start := by
    rcases h.start with h2 | h2
    · exact .inl h2
    · rcases List.mem_cons.1 (hp.mem_iff.2 h2) with h3 | h3
      · left; rw [← h3] at hs; exact hs
      · exact .inr h3
theorem Dij.settle (hn : NbOk nb s L) (h : Dij nb s O xs) {p : Pl} (hp : (p :: ys).Perm xs) (hmin : ∀ q ∈ xs, p.2 ≤ q.2) (hs : oat O p.1 < 0) {zs : List Pl} (hz : zs.Perm ((nb p.1).map (fun q => (q.1, p.2 + q.2)) ++ ys)) :
    Dij nb s (O.set p.1.toNat p.2) zs := by
  have hpm : p ∈ xs := hp.mem_iff.1 (by simp)
  have hwp := h.way p hpm
  obtain ⟨p0, p1⟩ := hwp.rng hn
  have hpn := hwp.nonneg hn
  have hO : ∀ {x : Int}, 0 ≤ x → oat (O.set p.1.toNat p.2) x = if x = p.1 then p.2 else oat O x := oat_set h.len p0 p1
  refine ⟨by simp [h.len], fun x => ?_, fun q hq => ?_, fun x h0 h1 hx => ?_, fun x h0 h1 hx q hq => ?_, ?_⟩
  · by_cases hx : 0 ≤ x
    · rw [hO hx]; split
      · exact .inr hpn
      · exact h.neg x
    · have hz : oat (O.set p.1.toNat p.2) x = oat (O.set p.1.toNat p.2) 0 := by unfold oat; rw [show x.toNat = (0 : Int).toNat by omega]
      have hz2 : oat O x = oat O 0 := by unfold oat; rw [show x.toNat = (0 : Int).toNat by omega]
      rw [hz, hO (by omega)]; split
      · exact .inr hpn
      · exact h.neg 0
  · rcases List.mem_append.1 (hz.mem_iff.1 hq) with hq | hq
    · obtain ⟨r, hr, rfl⟩ := List.mem_map.1 hq
      exact hwp.step hr
    · exact h.way q (hp.mem_iff.1 (by simp [hq]))
  · rw [hO h0] at hx ⊢
    by_cases e : x = p.1
    · subst e
      rw [if_pos rfl] at hx ⊢
      refine ⟨hwp, fun d hd => ?_⟩
      rcases h.reach hn hd with h2 | ⟨q, hq, h2⟩
      · omega
      · have := hmin q hq; omega
    · rw [if_neg e] at hx ⊢
      exact h.done x h0 h1 hx
  · obtain ⟨q0, q1, -⟩ := hn.rng _ _ hq
    rw [hO h0] at hx ⊢
    rw [hO q0]
    by_cases eq : q.1 = p.1
    · left; rw [if_pos eq]; exact hpn
    · rw [if_neg eq]
      by_cases e : x = p.1
      · subst e
        right
        rw [if_pos rfl]
        exact hz.mem_iff.2 (List.mem_append_left _ (List.mem_map.2 ⟨q, hq, rfl⟩))
      · rw [if_neg e] at hx ⊢
        rcases h.closed x h0 h1 hx q hq with h2 | h2
        · exact .inl h2
        · rcases List.mem_cons.1 (hp.mem_iff.2 h2) with h3 | h3
          · exact (eq (by rw [← h3])).elim
          · exact .inr (hz.mem_iff.2 (List.mem_append_right _ h3))
  · rw [hO hn.st.1]
    by_cases e : s = p.1
    · left; rw [if_pos e]; exact hpn
    · rw [if_neg e]
      rcases h.start with h2 | h2
      · exact .inl h2
      · rcases List.mem_cons.1 (hp.mem_iff.2 h2) with h3 | h3
        · exact (e (by rw [← h3])).elim
        · exact .inr (hz.mem_iff.2 (List.mem_append_right _ h3))
theorem Dij.final (hn : NbOk nb s L) (h : Dij nb s O []) {x : Int} (h0 : 0 ≤ x) (h1 : x < 64) : Dst nb s x (oat O x) := by
  rcases h.neg x with h2 | h2
  · refine .inr ⟨h2, fun d hd => ?_⟩
    rcases h.reach hn hd with h3 | ⟨q, hq, -⟩
    · omega
    · simp at hq
  · exact .inl ⟨h2, h.done x h0 h1 h2⟩

/-! ### how long it goes on -/
def degS (nb : Int → List Pl) (O : List Int) : Nat → Nat
  | 0 => 0
  | n + 1 => degS nb O n + if O.getD n (-1) < 0 then (nb n).length else 0
theorem degS_le {B : Nat} (hB : ∀ x, (nb x).length ≤ B) : ∀ n, degS nb O n ≤ n * B
  | 0 => by simp [degS]
  | n + 1 => by
    have := degS_le hB n
    have := hB n
    unfold degS
    rw [Nat.add_mul, Nat.one_mul]
    split <;> omega
theorem degS_set {p : Nat} {d : Int} (hl : O.length = 64) (hp : p < 64) (hs : O.getD p (-1) < 0) (hd : 0 ≤ d) : ∀ n, degS nb (O.set p d) n + (if p < n then (nb p).length else 0) = degS nb O n
  | 0 => by simp [degS]
  | n + 1 => by
    have ih := degS_set hl hp hs hd n
    unfold degS
    have hg : (O.set p d).getD n (-1) = if n = p then d else O.getD n (-1) := by
      rw [List.getD_eq_getElem?_getD, List.getElem?_set, List.getD_eq_getElem?_getD]
      by_cases e : n = p
      · subst e; rw [if_pos rfl, if_pos rfl, if_pos (by omega)]; rfl
      · rw [if_neg e, if_neg (Ne.symm e)]
    rw [hg]
    by_cases e : n = p
    · subst e
      rw [if_pos rfl, if_neg (by omega), if_pos hs, if_pos (by omega)]
      rw [if_neg (by omega)] at ih
      omega
    · rw [if_neg e]
      by_cases e2 : p < n
      · rw [if_pos e2] at ih; rw [if_pos (show p < n + 1 by omega)]; omega
      · rw [if_neg e2] at ih; rw [if_neg (show ¬ p < n + 1 by omega)]; omega
end
end Go.Proofs.YteiijmclobggjaaGreat
end
/- The search: distances from one node. -/
section
open Go Mk
namespace Go.Proofs.YteiijmclobggjaaGreat
set_option maxHeartbeats 8000000
attribute [local irreducible] Calls
theorem adj_freeze {Γ : Gho} {S : List Res} {bm : Nat} {N : Int → List Pl} {w : World} (h : AdjS Γ S bm N w) : ∃ Γ' l, Γ.le Γ' ∧ (∀ x v, zeroOr l x v → RepS Γ' v 2 ((N x).map plV)) ∧ Wd Γ' (adjM bm l :: S) w := by
  obtain ⟨l, hn, h0, hw⟩ := h
  have hw2 : Wd Γ (l.map (fun e => Res.own e.2 109 2 ((N e.1).map plV)) ++ (adjM bm l :: S)) w := hw.perm List.perm_middle.symm
  obtain ⟨Γ', hle, hr, hw3⟩ := freeze_list l hw2
  refine ⟨Γ', l, hle, fun x v hv => ?_, hw3⟩
  rcases hv with hv | ⟨hv, rfl⟩
  · have := (aGet_perm hn hv).mem_iff.2 (List.mem_cons_self ..)
    exact hr _ this
  · rw [h0 x hv]; exact repS_nil
theorem zeroOr_some (l : List (Int × Value)) (x : Int) : ∃ v, zeroOr l x v := by
  cases h : aGet l x with
  | some v => exact ⟨v, .inl h⟩
  | none => exact ⟨_, .inr ⟨h, rfl⟩⟩
def LinksOk (ls : List LinkT) : Prop := ls.length ≤ 1000 ∧ ∀ l ∈ ls, 0 ≤ l.A ∧ l.A < 64 ∧ 0 ≤ l.B ∧ l.B < 64 ∧ 1 ≤ l.Latency ∧ l.Latency ≤ 1000000
theorem nbr_ok {ls : List LinkT} {s : Int} (h : LinksOk ls) (hs : 0 ≤ s ∧ s < 64) : NbOk (nbrL ls) s 1000000 := ⟨fun x q hq => by
  unfold nbrL at hq
  obtain ⟨l, hl, hq⟩ := List.mem_flatMap.1 hq
  have := h.2 l hl
  rcases List.mem_append.1 hq with hq | hq
  · split at hq
    · simp only [List.mem_singleton] at hq; subst hq; simp only []; omega
    · simp at hq
  · split at hq
    · simp only [List.mem_singleton] at hq; subst hq; simp only []; omega
    · simp at hq, hs⟩

theorem distances_core {Γ : Gho} {u : Value} {H : HwT} [hh : HwR Γ u H] (hL : LinksOk H.Links) {s : Int} (hs : 0 ≤ s ∧ s < 64) {w : World} (hw : Wd Γ [] w) :
    Calls Tryz.prog 47 #[u, .int .i64 s] w fun e w' => ∃ Γ' v O, Γ.le Γ' ∧ e = .returned v ∧ O.length = 64 ∧ (∀ x, 0 ≤ x → x < 64 → Dst (nbrL H.Links) s x (oat O x) ∧ oat O x ≤ 128001000000) ∧ Wd Γ' [.own v 3 1 (intRows O)] w' := by
  have hc := hL.1
  have hn := nbr_ok hL hs
  refine calls_of_W Tryz.func47 rfl rfl ?_
  have hh' := hh
  obtain ⟨a1, n1, c1, a2, n2, c2, a3, n3, c3, a4, n4, c4, a5, n5, c5, cs, rfl, -⟩ := hh.h
  repeat (first | refine byW ?_ | (refine byV ?_; intro w hw))
  refine lBox ?_
  intro b2 w hw
  have hw : Wd Γ [.blk b2 (.cells #[.string H.Name, .slice a1 n1 c1, .slice a2 n2 c2, .slice a3 n3 c3, .slice a4 n4 c4, .slice a5 n5 c5] 28)] w := hw
  repeat (first | refine byW ?_ | (refine byV ?_; intro w hw))
  refine W_scopeS ?_
  repeat (first | refine byW ?_ | (refine byV ?_; intro w hw))
  refine lCall ((neighbours_any (H := H) hc hw).mono fun e w hq => ?_)
  obtain ⟨bm, rfl, hA⟩ := hq
  clear hw
  obtain ⟨Γ1, l, hle, hrep, hw⟩ := adj_freeze hA
  refine ⟨_, rfl, ?_⟩
  repeat (first | refine byW ?_ | (refine byV ?_; intro w hw))
  refine lMakeSlice (len := 64) ?_
  intro ao w hw
  have hw : Wd Γ1 [.own (.slice (some ao) 64 64) 3 1 (intRows (List.replicate 64 0)), adjM bm l, .blk b2 (.cells #[.string H.Name, .slice a1 n1 c1, .slice a2 n2 c2, .slice a3 n3 c3, .slice a4 n4 c4, .slice a5 n5 c5] 28)] w := hw
  repeat (first | refine byW ?_ | (refine byV ?_; intro w hw))
  refine W_loop (fun μ ρ w => ∃ (k : Nat) (O : List Int), μ + k = 64 ∧ O.length = 64 ∧ (∀ i, i < k → O[i]? = some (-1)) ∧ Has ρ [(1, .int .i64 s), (5, .map (some bm)), (6, .slice (some ao) 64 64), (17, .int .i64 (64 : Nat)), (18, .int .i64 k)] ∧ Wd Γ1 [.own (.slice (some ao) 64 64) 3 1 (intRows O), adjM bm l, .blk b2 (.cells #[.string H.Name, .slice a1 n1 c1, .slice a2 n2 c2, .slice a3 n3 c3, .slice a4 n4 c4, .slice a5 n5 c5] 28)] w) 64 ⟨0, _, by omega, by simp, fun i h => by omega, ⟨rfl, rfl, rfl, rfl, rfl, trivial⟩, hw⟩ ?_
  clear hw
  rintro μ ρ w ⟨k, O, hk, hO, hall, hρ, hw⟩
  rw [hρ.eq]
  clear hρ
  repeat (first | refine byW ?_ | (refine byV ?_; intro w hw))
  refine W_cond rfl (fun h => ?_) (fun h => ?_)
  · have hkn : k < 64 := by have := of_decide_eq_true h; omega
    clear h
    repeat (first | refine byW ?_ | (refine byV ?_; intro w hw))
    refine lStoreE (k := k) (r := [.int .i64 (-1)]) ?_
    intro w hw
    have hw : Wd Γ1 [.own (.slice (some ao) 64 64) 3 1 (intRows (O.set k (-1))), adjM bm l, .blk b2 (.cells #[.string H.Name, .slice a1 n1 c1, .slice a2 n2 c2, .slice a3 n3 c3, .slice a4 n4 c4, .slice a5 n5 c5] 28)] w := by
      have e : intRows (O.set k (-1)) = (intRows O).set k [.int .i64 (-1)] := by unfold intRows; rw [List.map_set]
      rw [e]; exact hw
    repeat (first | refine byW ?_ | (refine byV ?_; intro w hw))
    refine ⟨μ - 1, by omega, k + 1, O.set k (-1), by omega, by simp [hO], fun i hi => ?_, ⟨rfl, rfl, rfl, rfl, rfl, trivial⟩, hw⟩
    rw [List.getElem?_set]
    by_cases e : k = i
    · subst e; rw [if_pos rfl, if_pos (by omega)]
    · rw [if_neg e]; exact hall i (by omega)
  have hkn : ¬ k < 64 := by have := of_decide_eq_false h; omega
  have hO2 : O = List.replicate 64 (-1) := by
    refine List.ext_getElem? fun i => ?_
    rw [List.getElem?_replicate]
    by_cases e : i < 64
    · rw [if_pos e]; exact hall i (by omega)
    · rw [if_neg e, List.getElem?_eq_none (by omega)]
  subst hO2
  clear h hkn hall hO hk
  repeat (first | refine byW ?_ | (refine byV ?_; intro w hw))
  refine lBuildSlice [] ?_
  intro aq w hw
  refine lBox ?_
  intro bq w hw
  have hw : Wd Γ1 [hpB bq (.slice (some aq) 0 0), .own (.slice (some aq) 0 0) 109 2 (([] : List Pl).map plV), .own (.slice (some ao) 64 64) 3 1 (intRows (List.replicate 64 (-1))), adjM bm l, .blk b2 (.cells #[.string H.Name, .slice a1 n1 c1, .slice a2 n2 c2, .slice a3 n3 c3, .slice a4 n4 c4, .slice a5 n5 c5] 28)] w := hw
  refine lY (v := hpI bq) ?_ (hy := y_mkI rfl)
  repeat (first | refine byW ?_ | (refine byV ?_; intro w hw))
  refine lInv ((qadd_any (n := s) (d := 0) (by simp) (fun k h1 h2 => by simp at h2) hw).mono fun e w hq => ?_)
  obtain ⟨rfl, v0, xs0, hp0, hh0, hw⟩ := hq
  refine ⟨_, rfl, ?_⟩
  repeat (first | refine byW ?_ | (refine byV ?_; intro w hw))
  refine W_label ?_
  repeat (first | refine byW ?_ | (refine byV ?_; intro w hw))
  generalize hM0 : 1 + degS (nbrL H.Links) (List.replicate 64 (-1)) 64 = M0
  have hMb : M0 ≤ 128001 := by
    have := degS_le (nb := nbrL H.Links) (O := List.replicate 64 (-1)) (B := 2000) (fun x => by have := nbr_len (ls := H.Links) (x := x); omega) 64
    omega
  have hl0 := hp0.length_eq
  simp only [List.length_singleton] at hl0
  refine W_loop (fun μ ρ w => ∃ (v : Value) (xs : List Pl) (O : List Int), μ = xs.length + degS (nbrL H.Links) O 64 ∧ μ ≤ M0 ∧ HeapN xs xs.length ∧ Dij (nbrL H.Links) s O xs ∧ (∀ p ∈ xs, p.2 + 1000000 * (μ : Int) ≤ 1000000 * (M0 : Int)) ∧ (∀ z, 0 ≤ z → oat O z ≤ 1000000 * (M0 : Int)) ∧ Has ρ [(5, .map (some bm)), (6, .slice (some ao) 64 64), (8, hpI bq)] ∧ Wd Γ1 [hpB bq v, .own v 109 2 (xs.map plV), .own (.slice (some ao) 64 64) 3 1 (intRows O), adjM bm l, .blk b2 (.cells #[.string H.Name, .slice a1 n1 c1, .slice a2 n2 c2, .slice a3 n3 c3, .slice a4 n4 c4, .slice a5 n5 c5] 28)] w) (xs0.length + degS (nbrL H.Links) (List.replicate 64 (-1)) 64) ⟨v0, xs0, List.replicate 64 (-1), rfl, by omega, hh0, ?_, ?_, fun z _ => by rw [oat_none]; omega, ⟨rfl, rfl, rfl, trivial⟩, hw⟩ ?_
  · have e := List.perm_singleton.1 hp0
    rw [e]; exact Dij.init
  · intro p hp
    have e := List.perm_singleton.1 hp0
    rw [e] at hp; simp only [List.mem_singleton] at hp; subst hp
    simp only []
    omega
  clear hw hp0 hh0 hl0
  rintro μ ρ w ⟨v, xs, O, hμ, hμM, hheap, hD, hbd, hOb, hρ, hw⟩
  rw [hρ.eq]
  clear hρ
  repeat (first | refine byW ?_ | (refine byV ?_; intro w hw))
  refine lInv ((qempty_any hw).mono fun e w hq => ?_)
  obtain ⟨rfl, hw⟩ := hq
  refine ⟨_, rfl, ?_⟩
  repeat (first | refine byW ?_ | (refine byV ?_; intro w hw))
  refine W_cond rfl (fun h => ?_) (fun h => ?_)
  · have h : (!decide ((xs.length : Int) = 0)) = true := h
    have hne : xs ≠ [] := fun e => by subst e; simp at h
    clear h
    repeat (first | refine byW ?_ | (refine byV ?_; intro w hw))
    refine lInv ((qtake_any (by omega) hne hheap hw).mono fun e w hq => ?_)
    obtain ⟨x, v, ys, rfl, hp, hmin, hhy, hw⟩ := hq
    refine ⟨_, rfl, ?_⟩
    have hpl := hp.length_eq
    simp only [List.length_cons] at hpl
    have hxm : x ∈ xs := hp.mem_iff.1 (by simp)
    have hwx := hD.way x hxm
    obtain ⟨x0, x1⟩ := hwx.rng hn
    have hxn := hwx.nonneg hn
    have hxb := hbd x hxm
    obtain ⟨y, hy⟩ := get_lt (l := O) (k := x.1.toNat) (by have := hD.len; omega)
    have hoy : oat O x.1 = y := by unfold oat; rw [List.getD_eq_getElem?_getD, hy]; rfl
    repeat (first | refine byW ?_ | (refine byV ?_; intro w hw))
    refine W_cond rfl (fun h => ?_) (fun h => ?_)
    · have h : 0 ≤ y := of_decide_eq_true h
      repeat (first | refine byW ?_ | (refine byV ?_; intro w hw))
      refine ⟨μ - 1, by omega, v, ys, O, by omega, by omega, hhy, hD.skip hp (by omega), fun p hpm => ?_, hOb, ⟨rfl, rfl, rfl, trivial⟩, hw⟩
      have := hbd p (hp.mem_iff.1 (by simp [hpm]))
      omega
    · have h : ¬ 0 ≤ y := of_decide_eq_false h
      repeat (first | refine byW ?_ | (refine byV ?_; intro w hw))
      refine lStoreE (k := x.1.toNat) (r := [.int .i64 x.2]) ?_
      intro w hw
      have hw : Wd Γ1 [hpB bq v, .own v 109 2 (ys.map plV), .own (.slice (some ao) 64 64) 3 1 (intRows (O.set x.1.toNat x.2)), adjM bm l, .blk b2 (.cells #[.string H.Name, .slice a1 n1 c1, .slice a2 n2 c2, .slice a3 n3 c3, .slice a4 n4 c4, .slice a5 n5 c5] 28)] w := by
        have e : intRows (O.set x.1.toNat x.2) = (intRows O).set x.1.toNat [.int .i64 x.2] := by unfold intRows; rw [List.map_set]
        rw [e]; exact hw
      obtain ⟨va, hva⟩ := zeroOr_some l x.1
      have hra := hrep x.1 va hva
      obtain ⟨aa, na, ca, rfl, hna, hnca, hca⟩ := hra.shape
      simp only [List.length_map] at hna
      have hdeg := degS_set (nb := nbrL H.Links) (d := x.2) hD.len (p := x.1.toNat) (by omega) (by unfold oat at hoy; omega) hxn 64
      rw [if_pos (by omega), show ((x.1.toNat : Nat) : Int) = x.1 by omega] at hdeg
      repeat (first | refine byW ?_ | (refine byV ?_; intro w hw))
      refine lY (v := .slice aa na ca) ?_ (hy := y_lookupZ hw hva (i := 3) rfl rfl rfl)
      repeat (first | refine byW ?_ | (refine byV ?_; intro w hw))
      refine W_loop (fun μ2 ρ w => ∃ (k : Nat) (v : Value) (zs : List Pl), μ2 + k = na ∧ zs.Perm (((nbrL H.Links x.1).take k).map (fun q => (q.1, x.2 + q.2)) ++ ys) ∧ HeapN zs zs.length ∧ Has ρ [(5, .map (some bm)), (6, .slice (some ao) 64 64), (8, hpI bq), (10, .int .i64 x.2), (50, .slice aa na ca), (51, .int .i64 na), (52, .int .i64 k)] ∧ Wd Γ1 [hpB bq v, .own v 109 2 (zs.map plV), .own (.slice (some ao) 64 64) 3 1 (intRows (O.set x.1.toNat x.2)), adjM bm l, .blk b2 (.cells #[.string H.Name, .slice a1 n1 c1, .slice a2 n2 c2, .slice a3 n3 c3, .slice a4 n4 c4, .slice a5 n5 c5] 28)] w) na ⟨0, v, ys, by omega, .refl _, hhy, ⟨rfl, rfl, rfl, rfl, rfl, rfl, rfl, trivial⟩, hw⟩ ?_
      clear hw hhy
      rintro μ2 ρ w ⟨k, v, zs, hk, hz, hhz, hρ, hw⟩
      have hzl := hz.length_eq
      simp only [List.length_append, List.length_map, List.length_take] at hzl
      rw [hρ.eq]
      clear hρ
      repeat (first | refine byW ?_ | (refine byV ?_; intro w hw))
      refine W_cond rfl (fun h => ?_) (fun h => ?_)
      · have hkn : k < na := by have := of_decide_eq_true h; omega
        clear h
        obtain ⟨q, hq⟩ := get_lt (l := nbrL H.Links x.1) (k := k) (by omega)
        obtain ⟨q0, q1, q2, q3⟩ := hn.rng x.1 q (List.mem_of_getElem? hq)
        repeat (first | refine byW ?_ | (refine byV ?_; intro w hw))
        refine lAlloc ?_
        intro b12 w hw
        refine lStore ?_
        intro w hw
        have hw : Wd Γ1 [.blk b12 (.cells (plV q).toArray 109), hpB bq v, .own v 109 2 (zs.map plV), .own (.slice (some ao) 64 64) 3 1 (intRows (O.set x.1.toNat x.2)), adjM bm l, .blk b2 (.cells #[.string H.Name, .slice a1 n1 c1, .slice a2 n2 c2, .slice a3 n3 c3, .slice a4 n4 c4, .slice a5 n5 c5] 28)] w := hw
        repeat (first | refine byW ?_ | (refine byV ?_; intro w hw))
        refine lInv ((qadd_any (n := q.1) (d := x.2 + q.2) (by omega) hhz (hw.ps [2, 2])).mono fun e w hq2 => ?_)
        obtain ⟨rfl, v', ws, hp2, hh2, hw⟩ := hq2
        refine ⟨_, rfl, ?_⟩
        have hw := hw.ds [2]
        repeat (first | refine byW ?_ | (refine byV ?_; intro w hw))
        refine ⟨μ2 - 1, by omega, k + 1, v', ws, by omega, ?_, hh2, ⟨rfl, rfl, rfl, rfl, rfl, rfl, rfl, trivial⟩, hw⟩
        rw [take_succ_of hq, List.map_append, List.append_assoc]
        exact hp2.trans ((hz.cons _).trans List.perm_middle.symm)
      · have hkn : ¬ k < na := by have := of_decide_eq_false h; omega
        rw [List.take_of_length_le (by omega)] at hz
        have hzl := hz.length_eq
        simp only [List.length_append, List.length_map] at hzl
        have hD2 := hD.settle hn hp hmin (by omega) hz
        repeat (first | refine byW ?_ | (refine byV ?_; intro w hw))
        refine ⟨μ - 1, by omega, v, zs, O.set x.1.toNat x.2, by omega, by omega, hhz, hD2, fun p hpm => ?_, fun z hz0 => by rw [oat_set hD.len x0 x1 hz0]; split; (· omega); exact hOb z hz0, ⟨rfl, rfl, rfl, trivial⟩, hw⟩
        rcases List.mem_append.1 (hz.mem_iff.1 hpm) with hpm | hpm
        · obtain ⟨q, hq, rfl⟩ := List.mem_map.1 hpm
          have := (hn.rng _ _ hq).2.2.2
          simp only []
          omega
        · have := hbd p (hp.mem_iff.1 (by simp [hpm]))
          omega
  · have h : (!decide ((xs.length : Int) = 0)) = false := h
    have he : xs = [] := by
      have h : decide ((xs.length : Int) = 0) = true := by simpa using h
      have := of_decide_eq_true h
      exact List.length_eq_zero_iff.1 (by omega)
    subst he
    repeat (first | refine byW ?_ | (refine byV ?_; intro w hw))
    exact ⟨_, rfl, Γ1, _, O, hle, rfl, hD.len, fun x h0 h1 => ⟨hD.final hn h0 h1, by have := hOb x h0; omega⟩, hw.ds [0, 0, 1, 1]⟩

theorem distances_any {Γ : Gho} {u : Value} {H : HwT} [hh : HwR Γ u H] (hL : LinksOk H.Links) {s : Int} (hs : 0 ≤ s ∧ s < 64) {S : List Res} {w : World} (hw : Wd Γ S w) :
    Calls Tryz.prog 47 #[u, .int .i64 s] w fun e w' => ∃ v O, e = .returned v ∧ O.length = 64 ∧ (∀ x, 0 ≤ x → x < 64 → Dst (nbrL H.Links) s x (oat O x) ∧ oat O x ≤ 128001000000) ∧ Wd Γ (.own v 3 1 (intRows O) :: S) w' := by
  haveI : HwR (hpG Γ w) u H := hh.mono (hpG_le hw)
  refine (distances_core (Γ := hpG Γ w) hL hs (hpG_wd hw)).mono fun e w' hq => ?_
  obtain ⟨Γ', v, O, hle, rfl, hO, hd, hw'⟩ := hq
  exact ⟨v, O, rfl, hO, hd, wd_keptG (R := [_]) hw hle own_noimm hw'⟩
end Go.Proofs.YteiijmclobggjaaGreat
end
