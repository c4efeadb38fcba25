/- Texts of this proof, one behind another. -/
import Derived.Test.YtimbobmmijgkiaaGreatDoorM4
import Derived.Test.YtimbobmmijgkiaaGreatDoorM3
set_option linter.unusedVariables false
set_option linter.unusedSimpArgs false
/- Descriptions that are never changed again; what Validate asks of counts and numbers (the loops are printed by a program). -/
section
open Go Mk
namespace Go.Proofs.YtimbobmmijgkiaaGreatDoor
set_option maxHeartbeats 4000000
attribute [local irreducible] Calls

def maxS : Nat := 4611686018427387904
def HwSz (H : HwT) : Prop := H.Name.size ≤ maxS ∧ (∀ c ∈ H.Caches, c.Name.size ≤ maxS) ∧ (∀ c ∈ H.Mems, c.Name.size ≤ maxS) ∧ ∀ c ∈ H.Devs, c.Name.size ≤ maxS
/-- A description in memory that is never changed again. -/
class HwR (Γ : Gho) (u : Value) (H : outParam HwT) : Prop where
  h : ∃ (a1 : Option Addr) (n1 c1 : Nat) (a2 : Option Addr) (n2 c2 : Nat) (a3 : Option Addr) (n3 c3 : Nat) (a4 : Option Addr) (n4 c4 : Nat) (a5 : Option Addr) (n5 c5 : Nat) (cs : List CacheH),
    u = .agg #[.string H.Name, .slice a1 n1 c1, .slice a2 n2 c2, .slice a3 n3 c3, .slice a4 n4 c4, .slice a5 n5 c5] ∧ cs.map CacheH.T = H.Caches ∧ (∀ c ∈ cs, COk Γ c) ∧ HwSz H ∧
    RepS Γ (.slice a1 n1 c1) 4 (H.Cores.map enc) ∧ RepS Γ (.slice a2 n2 c2) 5 (cs.map cC) ∧ RepS Γ (.slice a3 n3 c3) 3 (H.Links.map enc) ∧ RepS Γ (.slice a4 n4 c4) 5 (H.Mems.map enc) ∧ RepS Γ (.slice a5 n5 c5) 5 (H.Devs.map enc)
theorem HwR.mono {Γ Γ' : Gho} {u : Value} {H : HwT} (hh : HwR Γ u H) (hle : Γ.le Γ') : HwR Γ' u H := by
  obtain ⟨a1, n1, c1, a2, n2, c2, a3, n3, c3, a4, n4, c4, a5, n5, c5, cs, h1, h2, h3, h4, r1, r2, r3, r4, r5⟩ := hh.h
  exact ⟨a1, n1, c1, a2, n2, c2, a3, n3, c3, a4, n4, c4, a5, n5, c5, cs, h1, h2, fun c hc => RepS.mono (h3 c hc) hle, h4, r1.mono hle, r2.mono hle, r3.mono hle, r4.mono hle, r5.mono hle⟩
theorem rep_facts {Γ : Gho} {a : Option Addr} {n c sz : Nat} {rows : List (List Value)} (h : RepS Γ (.slice a n c) sz rows) : n = rows.length ∧ n ≤ c ∧ c ≤ 9223372036854775807 := by
  obtain ⟨_, _, _, h1, h2, h3⟩ := h.shape; cases h1; exact ⟨h2, h3⟩
theorem COk.facts {Γ : Gho} {c : CacheH} (h : COk Γ c) : c.N = c.Cores.length ∧ c.N ≤ c.C ∧ c.C ≤ 9223372036854775807 := by
  have := rep_facts h
  simpa [intRows] using this

/-! ### lists that are looked through -/
section
variable {α : Type} {l : List α} {p : α → Bool} {k : Nat} {x : α}
theorem all_step (h : ∀ i x, i < k → l[i]? = some x → p x = true) (hx : l[k]? = some x) (ht : p x = true) : ∀ i x, i < k + 1 → l[i]? = some x → p x = true := fun i y hi hy => by
  by_cases e : i = k
  · subst e; rw [hx] at hy; cases hy; exact ht
  · exact h i y (by omega) hy
theorem all_end (h : ∀ i x, i < k → l[i]? = some x → p x = true) (hk : l.length ≤ k) : l.all p = true := by
  rw [List.all_eq_true]
  intro x hm
  obtain ⟨i, hi, hx⟩ := List.getElem_of_mem hm
  exact h i x (by omega) (by rw [List.getElem?_eq_getElem hi, hx])
theorem all_no (hx : l[k]? = some x) (hf : p x = false) : l.all p = false := by
  rw [List.all_eq_false]
  exact ⟨x, List.mem_of_getElem? hx, by rw [hf]; simp⟩
theorem and_no1 {a b : Bool} (h : a = false) : (a && b) = false := by rw [h]; rfl
theorem and_no2 {a b : Bool} (h : b = false) : (a && b) = false := by rw [h]; simp
end

def isNodeB (n : Int) : Bool := decide (0 ≤ n) && decide (n < 64)
def isLatB (n : Int) : Bool := decide (1 ≤ n) && decide (n ≤ 1000000)
instance pc_isNode (n : Int) : PC Tryz.prog 118 [.int .i64 n] (.bool (isNodeB n)) := ⟨fun w => by
  refine calls_of_W Tryz.func118 rfl rfl ?_
  repeat (first | refine byW ?_ | (refine byV ?_; intro w hw))
  exact ⟨_, rfl, rfl, rfl⟩⟩
instance pc_isLatency (n : Int) : PC Tryz.prog 119 [.int .i64 n] (.bool (isLatB n)) := ⟨fun w => by
  refine calls_of_W Tryz.func119 rfl rfl ?_
  repeat (first | refine byW ?_ | (refine byV ?_; intro w hw))
  exact ⟨_, rfl, rfl, rfl⟩⟩
def inSpaceB (b s : Int) : Bool := (decide (4096 ≤ s) && decide (s ≤ 1099511627776)) && decide (b ≤ IntKind.u64.wrap (1099511627776 - s))
theorem pc_inSpace (b s : Int) : PC Tryz.prog 120 [.int .u64 b, .int .u64 s] (.bool (inSpaceB b s)) := ⟨fun w => by
  refine calls_of_W Tryz.func120 rfl rfl ?_
  repeat (first | refine byW ?_ | (refine byV ?_; intro w hw))
  exact ⟨_, rfl, rfl, rfl⟩⟩
def coreRB (c : CoreT) : Bool := decide (0 ≤ c.ID) && decide (c.ID < 32) && (decide (c.Width = 32) || decide (c.Width = 39)) && decide (1 ≤ c.Speed) && decide (c.Speed ≤ 1000000) && isNodeB c.Node
def cacheRB (c : CacheT) : Bool := decide (1 ≤ c.Level) && decide (c.Level ≤ 4) && decide (16 ≤ c.Line) && decide (c.Line ≤ 256) && decide (bitsZ .and .i64 c.Line (IntKind.i64.wrap (c.Line - 1)) = 0) && decide (IntKind.u64.wrap c.Line ≤ c.Size) && decide (c.Size ≤ 1099511627776) && decide (0 < c.Cores.length)
def cacheRH (c : CacheH) : Bool := cacheRB c.T
theorem all_cache (cs : List CacheH) : (cs.map CacheH.T).all cacheRB = cs.all cacheRH := by rw [List.all_map]; rfl
def linkRB (l : LinkT) : Bool := isNodeB l.A && isNodeB l.B && decide (l.A ≠ l.B) && isLatB l.Latency
def memRB (m : MemT) : Bool := isNodeB m.Node && isLatB m.Latency && inSpaceB m.Base m.Size
def devRB (d : DevT) : Bool := isNodeB d.Node && decide (0 ≤ d.IRQ) && decide (d.IRQ < 256) && inSpaceB d.Base d.Size
def memAB (m : MemT) : Bool := decide (bitsZ .and .u64 m.Size (IntKind.u64.wrap (m.Size - 1)) = 0) && decide (bitsZ .and .u64 m.Base (IntKind.u64.wrap (m.Size - 1)) = 0)
def devAB (d : DevT) : Bool := decide (d.Base.tmod 4096 = 0) && decide (d.Size.tmod 4096 = 0)
def coresRB (H : HwT) : Bool := H.Cores.all coreRB && (H.Caches.all cacheRB && H.Links.all linkRB)
def regionsRB (H : HwT) : Bool := H.Mems.all memRB && H.Devs.all devRB
def alignRB (H : HwT) : Bool := H.Mems.all memAB && H.Devs.all devAB
def countsB (H : HwT) : Bool := decide (1 ≤ H.Cores.length) && decide (H.Cores.length ≤ 32) && decide (H.Caches.length ≤ 64) && decide (H.Links.length ≤ 256) && decide (H.Mems.length ≤ 64) && decide (H.Devs.length ≤ 32)
theorem mem_key (x : MemT) : (!isNodeB x.Node || !isLatB x.Latency || !inSpaceB x.Base x.Size) = !memRB x := by
  simp only [memRB, Bool.not_and]
theorem dev_key (x : DevT) : (!isNodeB x.Node || decide (x.IRQ < 0) || decide (256 ≤ x.IRQ) || !inSpaceB x.Base x.Size) = !devRB x := by
  simp only [devRB, Bool.not_and, ← decide_not, Int.not_le, Int.not_lt]
theorem mema_key (x : MemT) : (decide (bitsZ .and .u64 x.Size (IntKind.u64.wrap (x.Size - 1)) ≠ 0) || decide (bitsZ .and .u64 x.Base (IntKind.u64.wrap (x.Size - 1)) ≠ 0)) = !memAB x := by
  simp only [memAB, Bool.not_and, ← decide_not, ne_eq]
theorem deva_key (x : DevT) : (decide (x.Base.tmod 4096 ≠ 0) || decide (x.Size.tmod 4096 ≠ 0)) = !devAB x := by
  simp only [devAB, Bool.not_and, ← decide_not, ne_eq]
theorem cache_key (x : CacheH) (hn : x.N = x.Cores.length) : (decide (x.Level < 1) || decide (4 < x.Level) || decide (x.Line < 16) || decide (256 < x.Line) || decide (bitsZ .and .i64 x.Line (IntKind.i64.wrap (x.Line - 1)) ≠ 0) || decide (x.Size < IntKind.u64.wrap x.Line) || decide (1099511627776 < x.Size) || decide ((x.N : Int) = 0)) = !cacheRH x := by
  have h : decide ((x.N : Int) = 0) = !decide (0 < x.Cores.length) := by rw [← decide_not]; exact decide_eq_decide.2 (by omega)
  rw [h]
  have nle : ∀ a b : Int, decide (a ≤ b) = !decide (b < a) := fun a b => by rw [← decide_not]; exact decide_eq_decide.2 Int.not_lt.symm
  show _ = !(decide (1 ≤ x.Level) && decide (x.Level ≤ 4) && decide (16 ≤ x.Line) && decide (x.Line ≤ 256) && decide (bitsZ .and .i64 x.Line (IntKind.i64.wrap (x.Line - 1)) = 0) && decide (IntKind.u64.wrap x.Line ≤ x.Size) && decide (x.Size ≤ 1099511627776) && decide (0 < x.Cores.length))
  rw [nle 1, nle x.Level, nle 16, nle x.Line, nle (IntKind.u64.wrap x.Line), nle x.Size, show decide (bitsZ .and .i64 x.Line (IntKind.i64.wrap (x.Line - 1)) ≠ 0) = !decide (bitsZ .and .i64 x.Line (IntKind.i64.wrap (x.Line - 1)) = 0) from decide_not]
  simp only [Bool.not_and, Bool.not_not]
theorem key_no {a b : Bool} (h : a = !b) (h2 : a = true) : b = false := by subst h; simpa using h2
theorem key_yes {a b : Bool} (h : a = !b) (h2 : a = false) : b = true := by subst h; simpa using h2
instance pg_coresInRange {Γ : Gho} {u : Value} {H : HwT} [hh : HwR Γ u H] : PG Tryz.prog Γ 50 [u] (.bool (coresRB H)) := ⟨fun S w hw => by
  obtain ⟨a1, n1, c1, a2, n2, c2, a3, n3, c3, a4, n4, c4, a5, n5, c5, cs, rfl, hcs, hok, hsz, r1, r2, r3, r4, r5⟩ := hh.h
  obtain ⟨hn1, hm1, hx1⟩ := rep_facts r1
  obtain ⟨hn2, hm2, hx2⟩ := rep_facts r2
  obtain ⟨hn3, hm3, hx3⟩ := rep_facts r3
  obtain ⟨hn4, hm4, hx4⟩ := rep_facts r4
  obtain ⟨hn5, hm5, hx5⟩ := rep_facts r5
  simp only [List.length_map] at hn1 hn2 hn3 hn4 hn5
  refine calls_of_W Tryz.func50 rfl rfl ?_
  repeat (first | refine byW ?_ | (refine byV ?_; intro w hw))
  refine lBox ?_
  intro b1 w hw
  have hw : Wd Γ (.blk b1 (.cells #[.string H.Name, .slice a1 n1 c1, .slice a2 n2 c2, .slice a3 n3 c3, .slice a4 n4 c4, .slice a5 n5 c5] 35) :: S) w := hw
  repeat (first | refine byW ?_ | (refine byV ?_; intro w hw))
  refine W_loop (fun μ ρ w => ∃ (k : Nat), μ + k = n1 ∧ Has ρ [(1, .pointer (some ⟨b1, 0, none⟩)), (10, .slice a1 n1 c1), (11, .int .i64 n1), (12, .int .i64 k)] ∧ (∀ i x, i < k → (H.Cores)[i]? = some x → coreRB x = true) ∧ Wd Γ (.blk b1 (.cells #[.string H.Name, .slice a1 n1 c1, .slice a2 n2 c2, .slice a3 n3 c3, .slice a4 n4 c4, .slice a5 n5 c5] 35) :: S) w) n1 ⟨0, by omega, ⟨rfl, rfl, rfl, rfl, trivial⟩, fun i x h => by omega, hw⟩ ?_
  clear hw
  rintro μ ρ w ⟨k, hk, hρ, hall, hw⟩
  rw [hρ.eq]
  repeat (first | refine byW ?_ | (refine byV ?_; intro w hw))
  refine W_cond rfl (fun h => ?_) (fun h => ?_)
  · have hkn : k < n1 := by simpa using h
    obtain ⟨x, hx⟩ := get_lt (l := H.Cores) (k := k) (by omega)
    repeat (first | refine byW ?_ | (refine byV ?_; intro w hw))
    refine lAlloc ?_
    intro b9 w hw
    refine lStore ?_
    intro w hw
    have hw : Wd Γ (.blk b9 (.cells (enc x).toArray 77) :: .blk b1 (.cells #[.string H.Name, .slice a1 n1 c1, .slice a2 n2 c2, .slice a3 n3 c3, .slice a4 n4 c4, .slice a5 n5 c5] 35) :: S) w := hw
    repeat (first | refine byW ?_ | (refine byV ?_; intro w hw))
    refine W_cond rfl (fun h2 => ?_) (fun h2 => ?_)
    · have hf : coreRB x = false := by
        simp [coreRB, isNodeB] at h2 ⊢; omega
      repeat (first | refine byW ?_ | (refine byV ?_; intro w hw))
      exact ⟨_, rfl, ret_b rfl (by exact (and_no1 (all_no hx hf)).symm), hw.drop.drop⟩
    · have ht : coreRB x = true := by
        simp [coreRB, isNodeB] at h2 ⊢; omega
      repeat (first | refine byW ?_ | (refine byV ?_; intro w hw))
      exact ⟨μ - 1, by omega, k + 1, by omega, ⟨rfl, rfl, rfl, rfl, trivial⟩, all_step hall hx ht, hw.drop⟩
  have hAc : (H.Cores).all coreRB = true := all_end hall (by have hkn : ¬ k < n1 := (by simpa using h); omega)
  clear h hall hρ hk
  repeat (first | refine byW ?_ | (refine byV ?_; intro w hw))
  refine W_loop (fun μ ρ w => ∃ (k : Nat), μ + k = n2 ∧ Has ρ [(1, .pointer (some ⟨b1, 0, none⟩)), (52, .slice a2 n2 c2), (53, .int .i64 n2), (54, .int .i64 k)] ∧ (∀ i x, i < k → (cs)[i]? = some x → cacheRH x = true) ∧ Wd Γ (.blk b1 (.cells #[.string H.Name, .slice a1 n1 c1, .slice a2 n2 c2, .slice a3 n3 c3, .slice a4 n4 c4, .slice a5 n5 c5] 35) :: S) w) n2 ⟨0, by omega, ⟨rfl, rfl, rfl, rfl, trivial⟩, fun i x h => by omega, hw⟩ ?_
  clear hw
  rintro μ ρ w ⟨k, hk, hρ, hall, hw⟩
  rw [hρ.eq]
  repeat (first | refine byW ?_ | (refine byV ?_; intro w hw))
  refine W_cond rfl (fun h => ?_) (fun h => ?_)
  · have hkn : k < n2 := by simpa using h
    obtain ⟨x, hx⟩ := get_lt (l := cs) (k := k) (by omega)
    have hcx := (hok x (List.mem_of_getElem? hx)).facts
    repeat (first | refine byW ?_ | (refine byV ?_; intro w hw))
    refine lAlloc ?_
    intro b9 w hw
    refine lStore ?_
    intro w hw
    have hw : Wd Γ (.blk b9 (.cells (cC x).toArray 79) :: .blk b1 (.cells #[.string H.Name, .slice a1 n1 c1, .slice a2 n2 c2, .slice a3 n3 c3, .slice a4 n4 c4, .slice a5 n5 c5] 35) :: S) w := hw
    repeat (first | refine byW ?_ | (refine byV ?_; intro w hw))
    refine W_cond rfl (fun h2 => ?_) (fun h2 => ?_)
    · have hf : cacheRH x = false := by
        exact key_no (cache_key x hcx.1) h2
      repeat (first | refine byW ?_ | (refine byV ?_; intro w hw))
      exact ⟨_, rfl, ret_b rfl (by rw [coresRB, ← hcs, all_cache, hAc]; exact (and_no2 (and_no1 (all_no hx hf))).symm), hw.drop.drop⟩
    · have ht : cacheRH x = true := by
        exact key_yes (cache_key x hcx.1) h2
      repeat (first | refine byW ?_ | (refine byV ?_; intro w hw))
      exact ⟨μ - 1, by omega, k + 1, by omega, ⟨rfl, rfl, rfl, rfl, trivial⟩, all_step hall hx ht, hw.drop⟩
  have hAh : (cs).all cacheRH = true := all_end hall (by have hkn : ¬ k < n2 := (by simpa using h); omega)
  clear h hall hρ hk
  repeat (first | refine byW ?_ | (refine byV ?_; intro w hw))
  refine W_loop (fun μ ρ w => ∃ (k : Nat), μ + k = n3 ∧ Has ρ [(1, .pointer (some ⟨b1, 0, none⟩)), (106, .slice a3 n3 c3), (107, .int .i64 n3), (108, .int .i64 k)] ∧ (∀ i x, i < k → (H.Links)[i]? = some x → linkRB x = true) ∧ Wd Γ (.blk b1 (.cells #[.string H.Name, .slice a1 n1 c1, .slice a2 n2 c2, .slice a3 n3 c3, .slice a4 n4 c4, .slice a5 n5 c5] 35) :: S) w) n3 ⟨0, by omega, ⟨rfl, rfl, rfl, rfl, trivial⟩, fun i x h => by omega, hw⟩ ?_
  clear hw
  rintro μ ρ w ⟨k, hk, hρ, hall, hw⟩
  rw [hρ.eq]
  repeat (first | refine byW ?_ | (refine byV ?_; intro w hw))
  refine W_cond rfl (fun h => ?_) (fun h => ?_)
  · have hkn : k < n3 := by simpa using h
    obtain ⟨x, hx⟩ := get_lt (l := H.Links) (k := k) (by omega)
    repeat (first | refine byW ?_ | (refine byV ?_; intro w hw))
    refine lAlloc ?_
    intro b9 w hw
    refine lStore ?_
    intro w hw
    have hw : Wd Γ (.blk b9 (.cells (enc x).toArray 82) :: .blk b1 (.cells #[.string H.Name, .slice a1 n1 c1, .slice a2 n2 c2, .slice a3 n3 c3, .slice a4 n4 c4, .slice a5 n5 c5] 35) :: S) w := hw
    repeat (first | refine byW ?_ | (refine byV ?_; intro w hw))
    refine W_cond rfl (fun h2 => ?_) (fun h2 => ?_)
    · have hf : linkRB x = false := by
        simp [linkRB, isNodeB, isLatB] at h2 ⊢; omega
      repeat (first | refine byW ?_ | (refine byV ?_; intro w hw))
      exact ⟨_, rfl, ret_b rfl (by rw [coresRB, ← hcs, all_cache, hAc, hAh]; exact (and_no2 (and_no2 (all_no hx hf))).symm), hw.drop.drop⟩
    · have ht : linkRB x = true := by
        simp [linkRB, isNodeB, isLatB] at h2 ⊢; omega
      repeat (first | refine byW ?_ | (refine byV ?_; intro w hw))
      exact ⟨μ - 1, by omega, k + 1, by omega, ⟨rfl, rfl, rfl, rfl, trivial⟩, all_step hall hx ht, hw.drop⟩
  have hAl : (H.Links).all linkRB = true := all_end hall (by have hkn : ¬ k < n3 := (by simpa using h); omega)
  clear h hall hρ hk
  repeat (first | refine byW ?_ | (refine byV ?_; intro w hw))
  exact ⟨_, rfl, ret_b rfl (by rw [coresRB, ← hcs, all_cache, hAc, hAh, hAl]; rfl), hw.drop⟩⟩
instance pg_regionsInRange {Γ : Gho} {u : Value} {H : HwT} [hh : HwR Γ u H] : PG Tryz.prog Γ 51 [u] (.bool (regionsRB H)) := ⟨fun S w hw => by
  obtain ⟨a1, n1, c1, a2, n2, c2, a3, n3, c3, a4, n4, c4, a5, n5, c5, cs, rfl, hcs, hok, hsz, r1, r2, r3, r4, r5⟩ := hh.h
  obtain ⟨hn1, hm1, hx1⟩ := rep_facts r1
  obtain ⟨hn2, hm2, hx2⟩ := rep_facts r2
  obtain ⟨hn3, hm3, hx3⟩ := rep_facts r3
  obtain ⟨hn4, hm4, hx4⟩ := rep_facts r4
  obtain ⟨hn5, hm5, hx5⟩ := rep_facts r5
  simp only [List.length_map] at hn1 hn2 hn3 hn4 hn5
  refine calls_of_W Tryz.func51 rfl rfl ?_
  repeat (first | refine byW ?_ | (refine byV ?_; intro w hw))
  refine lBox ?_
  intro b1 w hw
  have hw : Wd Γ (.blk b1 (.cells #[.string H.Name, .slice a1 n1 c1, .slice a2 n2 c2, .slice a3 n3 c3, .slice a4 n4 c4, .slice a5 n5 c5] 35) :: S) w := hw
  repeat (first | refine byW ?_ | (refine byV ?_; intro w hw))
  refine W_loop (fun μ ρ w => ∃ (k : Nat), μ + k = n4 ∧ Has ρ [(1, .pointer (some ⟨b1, 0, none⟩)), (3, .func (.func 120) #[] #[]), (9, .slice a4 n4 c4), (10, .int .i64 n4), (11, .int .i64 k)] ∧ (∀ i x, i < k → (H.Mems)[i]? = some x → memRB x = true) ∧ Wd Γ (.blk b1 (.cells #[.string H.Name, .slice a1 n1 c1, .slice a2 n2 c2, .slice a3 n3 c3, .slice a4 n4 c4, .slice a5 n5 c5] 35) :: S) w) n4 ⟨0, by omega, ⟨rfl, rfl, rfl, rfl, rfl, trivial⟩, fun i x h => by omega, hw⟩ ?_
  clear hw
  rintro μ ρ w ⟨k, hk, hρ, hall, hw⟩
  rw [hρ.eq]
  repeat (first | refine byW ?_ | (refine byV ?_; intro w hw))
  refine W_cond rfl (fun h => ?_) (fun h => ?_)
  · have hkn : k < n4 := by simpa using h
    obtain ⟨x, hx⟩ := get_lt (l := H.Mems) (k := k) (by omega)
    repeat (first | refine byW ?_ | (refine byV ?_; intro w hw))
    refine lAlloc ?_
    intro b9 w hw
    refine lStore ?_
    intro w hw
    have hw : Wd Γ (.blk b9 (.cells (enc x).toArray 47) :: .blk b1 (.cells #[.string H.Name, .slice a1 n1 c1, .slice a2 n2 c2, .slice a3 n3 c3, .slice a4 n4 c4, .slice a5 n5 c5] 35) :: S) w := hw
    repeat (first | refine byW ?_ | (refine byV ?_; intro w hw))
    refine lPvG (pc_inSpace x.Base x.Size) ?_
    repeat (first | refine byW ?_ | (refine byV ?_; intro w hw))
    refine W_cond rfl (fun h2 => ?_) (fun h2 => ?_)
    · have hf : memRB x = false := by
        exact key_no (mem_key x) h2
      repeat (first | refine byW ?_ | (refine byV ?_; intro w hw))
      exact ⟨_, rfl, ret_b rfl (by exact (and_no1 (all_no hx hf)).symm), hw.drop.drop⟩
    · have ht : memRB x = true := by
        exact key_yes (mem_key x) h2
      repeat (first | refine byW ?_ | (refine byV ?_; intro w hw))
      exact ⟨μ - 1, by omega, k + 1, by omega, ⟨rfl, rfl, rfl, rfl, rfl, trivial⟩, all_step hall hx ht, hw.drop⟩
  have hAm : (H.Mems).all memRB = true := all_end hall (by have hkn : ¬ k < n4 := (by simpa using h); omega)
  clear h hall hρ hk
  repeat (first | refine byW ?_ | (refine byV ?_; intro w hw))
  refine W_loop (fun μ ρ w => ∃ (k : Nat), μ + k = n5 ∧ Has ρ [(1, .pointer (some ⟨b1, 0, none⟩)), (3, .func (.func 120) #[] #[]), (36, .slice a5 n5 c5), (37, .int .i64 n5), (38, .int .i64 k)] ∧ (∀ i x, i < k → (H.Devs)[i]? = some x → devRB x = true) ∧ Wd Γ (.blk b1 (.cells #[.string H.Name, .slice a1 n1 c1, .slice a2 n2 c2, .slice a3 n3 c3, .slice a4 n4 c4, .slice a5 n5 c5] 35) :: S) w) n5 ⟨0, by omega, ⟨rfl, rfl, rfl, rfl, rfl, trivial⟩, fun i x h => by omega, hw⟩ ?_
  clear hw
  rintro μ ρ w ⟨k, hk, hρ, hall, hw⟩
  rw [hρ.eq]
  repeat (first | refine byW ?_ | (refine byV ?_; intro w hw))
  refine W_cond rfl (fun h => ?_) (fun h => ?_)
  · have hkn : k < n5 := by simpa using h
    obtain ⟨x, hx⟩ := get_lt (l := H.Devs) (k := k) (by omega)
    repeat (first | refine byW ?_ | (refine byV ?_; intro w hw))
    refine lAlloc ?_
    intro b9 w hw
    refine lStore ?_
    intro w hw
    have hw : Wd Γ (.blk b9 (.cells (enc x).toArray 84) :: .blk b1 (.cells #[.string H.Name, .slice a1 n1 c1, .slice a2 n2 c2, .slice a3 n3 c3, .slice a4 n4 c4, .slice a5 n5 c5] 35) :: S) w := hw
    repeat (first | refine byW ?_ | (refine byV ?_; intro w hw))
    refine lPvG (pc_inSpace x.Base x.Size) ?_
    repeat (first | refine byW ?_ | (refine byV ?_; intro w hw))
    refine W_cond rfl (fun h2 => ?_) (fun h2 => ?_)
    · have hf : devRB x = false := by
        exact key_no (dev_key x) h2
      repeat (first | refine byW ?_ | (refine byV ?_; intro w hw))
      exact ⟨_, rfl, ret_b rfl (by rw [regionsRB, hAm]; exact (all_no hx hf).symm), hw.drop.drop⟩
    · have ht : devRB x = true := by
        exact key_yes (dev_key x) h2
      repeat (first | refine byW ?_ | (refine byV ?_; intro w hw))
      exact ⟨μ - 1, by omega, k + 1, by omega, ⟨rfl, rfl, rfl, rfl, rfl, trivial⟩, all_step hall hx ht, hw.drop⟩
  have hAd : (H.Devs).all devRB = true := all_end hall (by have hkn : ¬ k < n5 := (by simpa using h); omega)
  clear h hall hρ hk
  repeat (first | refine byW ?_ | (refine byV ?_; intro w hw))
  exact ⟨_, rfl, ret_b rfl (by rw [regionsRB, hAm, hAd]; rfl), hw.drop⟩⟩
instance pg_alignedOK {Γ : Gho} {u : Value} {H : HwT} [hh : HwR Γ u H] : PG Tryz.prog Γ 52 [u] (.bool (alignRB H)) := ⟨fun S w hw => by
  obtain ⟨a1, n1, c1, a2, n2, c2, a3, n3, c3, a4, n4, c4, a5, n5, c5, cs, rfl, hcs, hok, hsz, r1, r2, r3, r4, r5⟩ := hh.h
  obtain ⟨hn1, hm1, hx1⟩ := rep_facts r1
  obtain ⟨hn2, hm2, hx2⟩ := rep_facts r2
  obtain ⟨hn3, hm3, hx3⟩ := rep_facts r3
  obtain ⟨hn4, hm4, hx4⟩ := rep_facts r4
  obtain ⟨hn5, hm5, hx5⟩ := rep_facts r5
  simp only [List.length_map] at hn1 hn2 hn3 hn4 hn5
  refine calls_of_W Tryz.func52 rfl rfl ?_
  repeat (first | refine byW ?_ | (refine byV ?_; intro w hw))
  refine lBox ?_
  intro b1 w hw
  have hw : Wd Γ (.blk b1 (.cells #[.string H.Name, .slice a1 n1 c1, .slice a2 n2 c2, .slice a3 n3 c3, .slice a4 n4 c4, .slice a5 n5 c5] 35) :: S) w := hw
  repeat (first | refine byW ?_ | (refine byV ?_; intro w hw))
  refine W_loop (fun μ ρ w => ∃ (k : Nat), μ + k = n4 ∧ Has ρ [(1, .pointer (some ⟨b1, 0, none⟩)), (8, .slice a4 n4 c4), (9, .int .i64 n4), (10, .int .i64 k)] ∧ (∀ i x, i < k → (H.Mems)[i]? = some x → memAB x = true) ∧ Wd Γ (.blk b1 (.cells #[.string H.Name, .slice a1 n1 c1, .slice a2 n2 c2, .slice a3 n3 c3, .slice a4 n4 c4, .slice a5 n5 c5] 35) :: S) w) n4 ⟨0, by omega, ⟨rfl, rfl, rfl, rfl, trivial⟩, fun i x h => by omega, hw⟩ ?_
  clear hw
  rintro μ ρ w ⟨k, hk, hρ, hall, hw⟩
  rw [hρ.eq]
  repeat (first | refine byW ?_ | (refine byV ?_; intro w hw))
  refine W_cond rfl (fun h => ?_) (fun h => ?_)
  · have hkn : k < n4 := by simpa using h
    obtain ⟨x, hx⟩ := get_lt (l := H.Mems) (k := k) (by omega)
    repeat (first | refine byW ?_ | (refine byV ?_; intro w hw))
    refine lAlloc ?_
    intro b9 w hw
    refine lStore ?_
    intro w hw
    have hw : Wd Γ (.blk b9 (.cells (enc x).toArray 47) :: .blk b1 (.cells #[.string H.Name, .slice a1 n1 c1, .slice a2 n2 c2, .slice a3 n3 c3, .slice a4 n4 c4, .slice a5 n5 c5] 35) :: S) w := hw
    repeat (first | refine byW ?_ | (refine byV ?_; intro w hw))
    refine W_cond rfl (fun h2 => ?_) (fun h2 => ?_)
    · have hf : memAB x = false := by
        exact key_no (mema_key x) h2
      repeat (first | refine byW ?_ | (refine byV ?_; intro w hw))
      exact ⟨_, rfl, ret_b rfl (by exact (and_no1 (all_no hx hf)).symm), hw.drop.drop⟩
    · have ht : memAB x = true := by
        exact key_yes (mema_key x) h2
      repeat (first | refine byW ?_ | (refine byV ?_; intro w hw))
      exact ⟨μ - 1, by omega, k + 1, by omega, ⟨rfl, rfl, rfl, rfl, trivial⟩, all_step hall hx ht, hw.drop⟩
  have hAm : (H.Mems).all memAB = true := all_end hall (by have hkn : ¬ k < n4 := (by simpa using h); omega)
  clear h hall hρ hk
  repeat (first | refine byW ?_ | (refine byV ?_; intro w hw))
  refine W_loop (fun μ ρ w => ∃ (k : Nat), μ + k = n5 ∧ Has ρ [(1, .pointer (some ⟨b1, 0, none⟩)), (32, .slice a5 n5 c5), (33, .int .i64 n5), (34, .int .i64 k)] ∧ (∀ i x, i < k → (H.Devs)[i]? = some x → devAB x = true) ∧ Wd Γ (.blk b1 (.cells #[.string H.Name, .slice a1 n1 c1, .slice a2 n2 c2, .slice a3 n3 c3, .slice a4 n4 c4, .slice a5 n5 c5] 35) :: S) w) n5 ⟨0, by omega, ⟨rfl, rfl, rfl, rfl, trivial⟩, fun i x h => by omega, hw⟩ ?_
  clear hw
  rintro μ ρ w ⟨k, hk, hρ, hall, hw⟩
  rw [hρ.eq]
  repeat (first | refine byW ?_ | (refine byV ?_; intro w hw))
  refine W_cond rfl (fun h => ?_) (fun h => ?_)
  · have hkn : k < n5 := by simpa using h
    obtain ⟨x, hx⟩ := get_lt (l := H.Devs) (k := k) (by omega)
    repeat (first | refine byW ?_ | (refine byV ?_; intro w hw))
    refine lAlloc ?_
    intro b9 w hw
    refine lStore ?_
    intro w hw
    have hw : Wd Γ (.blk b9 (.cells (enc x).toArray 84) :: .blk b1 (.cells #[.string H.Name, .slice a1 n1 c1, .slice a2 n2 c2, .slice a3 n3 c3, .slice a4 n4 c4, .slice a5 n5 c5] 35) :: S) w := hw
    repeat (first | refine byW ?_ | (refine byV ?_; intro w hw))
    refine W_cond rfl (fun h2 => ?_) (fun h2 => ?_)
    · have hf : devAB x = false := by
        exact key_no (deva_key x) h2
      repeat (first | refine byW ?_ | (refine byV ?_; intro w hw))
      exact ⟨_, rfl, ret_b rfl (by rw [alignRB, hAm]; exact (all_no hx hf).symm), hw.drop.drop⟩
    · have ht : devAB x = true := by
        exact key_yes (deva_key x) h2
      repeat (first | refine byW ?_ | (refine byV ?_; intro w hw))
      exact ⟨μ - 1, by omega, k + 1, by omega, ⟨rfl, rfl, rfl, rfl, trivial⟩, all_step hall hx ht, hw.drop⟩
  have hAd : (H.Devs).all devAB = true := all_end hall (by have hkn : ¬ k < n5 := (by simpa using h); omega)
  clear h hall hρ hk
  repeat (first | refine byW ?_ | (refine byV ?_; intro w hw))
  exact ⟨_, rfl, ret_b rfl (by rw [alignRB, hAm, hAd]; rfl), hw.drop⟩⟩
end Go.Proofs.YtimbobmmijgkiaaGreatDoor
end
/- No element occurs twice: what distinct answers. -/
section
open Go Mk
namespace Go.Proofs.YtimbobmmijgkiaaGreatDoor
set_option maxHeartbeats 4000000
attribute [local irreducible] Calls

/-- A list in memory that is never changed again. -/
class SlC (Γ : Gho) (v : Value) (sz : outParam Nat) (rows : outParam (List (List Value))) : Prop where
  h : RepS Γ v sz rows
instance : TPair Tryz.prog 143 := ⟨⟨3, by kernel_rfl, by kernel_rfl, by kernel_rfl⟩⟩
abbrev pairRows (l : List (Int × Int)) : List (List Value) := l.map fun p => [.int .i64 p.1, .int .i64 p.2]
theorem take_succ_of {α : Type} {l : List α} {k : Nat} {x : α} (h : l[k]? = some x) : l.take (k + 1) = l.take k ++ [x] := by rw [List.take_add_one, h]; rfl
theorem nodup_snoc {α : Type} {l : List α} {x : α} : (l ++ [x]).Nodup ↔ l.Nodup ∧ x ∉ l := by
  rw [List.nodup_append]
  constructor
  · rintro ⟨h1, -, h3⟩; exact ⟨h1, fun hx => h3 x hx x (by simp) rfl⟩
  · rintro ⟨h1, h2⟩; exact ⟨h1, by simp, fun a ha b hb => by simp at hb; subst hb; rintro rfl; exact h2 ha⟩
theorem not_nodup_at {α : Type} {l : List α} {k : Nat} {x : α} (h : l[k]? = some x) (hm : x ∈ l.take k) : ¬ l.Nodup := fun hn => by
  have h1 : (l.take (k + 1)).Nodup := hn.sublist (List.take_sublist _ _)
  rw [take_succ_of h, nodup_snoc] at h1
  exact h1.2 hm
section
variable {α : Type} [DecidableEq α] {l : List α} {x : α}
abbrev seenL (l : List α) : List (α × Bool) := l.map fun x => (x, true)
theorem seen_ix : ∀ {l : List α}, (aIx (seenL l) x).isSome = true ↔ x ∈ l
  | [] => by simp [aIx, seenL]
  | y :: l => by
    have ih := seen_ix (l := l)
    unfold aIx at ih ⊢
    by_cases h : y = x
    · simp [seenL, List.findIdx?_cons, h]
    · simp only [seenL, List.map_cons, List.findIdx?_cons, h, decide_false, Bool.false_eq_true, if_false, Option.isSome_map]
      rw [ih]
      simp [Ne.symm h]
theorem seen_some (h : x ∈ l) : aGet (seenL l) x = some true := by
  have h2 := seen_ix.2 h
  unfold aGet
  cases hi : aIx (seenL l) x with
  | none => rw [hi] at h2; cases h2
  | some i =>
    obtain ⟨v, hv⟩ := aIx_get hi
    obtain ⟨y, hy, he⟩ := List.mem_map.1 (List.mem_of_getElem? hv)
    cases he
    simp only [Option.bind_some, hv]; rfl
theorem seen_none (h : x ∉ l) : aGet (seenL l) x = none := by
  unfold aGet
  cases hi : aIx (seenL l) x with
  | none => rfl
  | some i => exact absurd (seen_ix.1 (by rw [hi]; rfl)) h
theorem seen_set (h : x ∉ l) : aSet (seenL l) x true = seenL (l ++ [x]) := by
  unfold aSet
  cases hi : aIx (seenL l) x with
  | none => simp [seenL]
  | some i => exact absurd (seen_ix.1 (by rw [hi]; rfl)) h
end

theorem distinct_int_any {Γ : Gho} {S : List Res} {w : World} {v : Value} {xs : List (Int)} (hr : RdS Γ S v 1 (intRows xs)) (hw : Wd Γ S w) : Calls Tryz.prog 121 #[v] w fun e w' => e = .returned (.bool (decide xs.Nodup)) ∧ Wd Γ S w' := by
  obtain ⟨a, n, c, rfl, hn, hnc, hc⟩ := hr.shape
  have hnr := hn
  simp only [intRows, List.length_map] at hn
  refine calls_of_W Tryz.func121 rfl rfl ?_
  repeat (first | refine byW ?_ | (refine byV ?_; intro w hw))
  refine L_step rfl rfl (s_makeMap (K := 3) (α := Int) (f := Value.bool) hw fun bm w hw => ?_)
  repeat (first | refine byW ?_ | (refine byV ?_; intro w hw))
  refine W_loop (fun μ ρ w => ∃ (k : Nat), μ + k = n ∧ Has ρ [(3, .map (some bm)), (7, .slice a n c), (8, .int .i64 n), (9, .int .i64 k)] ∧ (xs.take k).Nodup ∧ Wd Γ (Res.mpT Tryz.prog 3 Value.bool bm (seenL (xs.take k)) :: S) w) n ⟨0, by omega, ⟨rfl, rfl, rfl, rfl, trivial⟩, by simp, hw⟩ ?_
  clear hw
  rintro μ ρ w ⟨k, hk, hρ, hnd, hw⟩
  have hr1 : RdS Γ (Res.mpT Tryz.prog 3 Value.bool bm (seenL (xs.take k)) :: S) (.slice a n c) 1 (intRows xs) := hr.cons
  rw [hρ.eq]
  repeat (first | refine byW ?_ | (refine byV ?_; intro w hw))
  refine W_cond rfl (fun h => ?_) (fun h => ?_)
  · have hkn : k < n := by simpa using h
    obtain ⟨x, hx⟩ := get_lt (l := xs) (k := k) (by omega)
    repeat (first | refine byW ?_ | (refine byV ?_; intro w hw))
    letI hdm : Decidable (x ∈ xs.take k) := Classical.propDecidable _
    refine L_y rfl rfl (v := .bool (decide (x ∈ xs.take k))) ?_ ?_
    · by_cases hm : x ∈ xs.take k
      · rw [decide_eq_true hm]
        exact y_lookup_some (P := Tryz.prog) (K := 3) (α := Int) (f := Value.bool) (i := 0) hw rfl rfl rfl (seen_some hm) false
      · rw [decide_eq_false hm]
        exact y_lookup_none (P := Tryz.prog) (K := 3) (α := Int) (f := Value.bool) (i := 0) hw rfl rfl rfl (seen_none hm) false
    repeat (first | refine byW ?_ | (refine byV ?_; intro w hw))
    refine W_cond rfl (fun h2 => ?_) (fun h2 => ?_)
    · have hm : x ∈ xs.take k := by simpa using h2
      repeat (first | refine byW ?_ | (refine byV ?_; intro w hw))
      exact ⟨_, rfl, ret_b rfl (decide_eq_false (not_nodup_at hx hm)).symm, hw.drop⟩
    · have hm : x ∉ xs.take k := by simpa using h2
      repeat (first | refine byW ?_ | (refine byV ?_; intro w hw))
      refine L_step rfl rfl (s_mapUpdate (P := Tryz.prog) (K := 3) (α := Int) (f := Value.bool) (i := 0) (v := true) hw rfl rfl rfl rfl fun w hw => ?_)
      rw [seen_set hm, ← take_succ_of hx] at hw
      repeat (first | refine byW ?_ | (refine byV ?_; intro w hw))
      exact ⟨μ - 1, by omega, k + 1, by omega, ⟨rfl, rfl, rfl, rfl, trivial⟩, by rw [take_succ_of hx]; exact nodup_snoc.2 ⟨hnd, hm⟩, hw⟩
  · have hkn : ¬ k < n := by simpa using h
    rw [List.take_of_length_le (by omega)] at hnd
    repeat (first | refine byW ?_ | (refine byV ?_; intro w hw))
    exact ⟨_, rfl, ret_b rfl (decide_eq_true hnd).symm, hw.drop⟩
instance pg_distinct_int {Γ : Gho} {v : Value} {xs : List (Int)} [hr : SlC Γ v 1 (intRows xs)] : PG Tryz.prog Γ 121 [v] (.bool (decide xs.Nodup)) := ⟨fun S w hw => distinct_int_any hr.h.rdS hw⟩

theorem distinct_string_any {Γ : Gho} {S : List Res} {w : World} {v : Value} {xs : List (ByteArray)} (hr : RdS Γ S v 1 (strRows xs)) (hw : Wd Γ S w) : Calls Tryz.prog 122 #[v] w fun e w' => e = .returned (.bool (decide xs.Nodup)) ∧ Wd Γ S w' := by
  obtain ⟨a, n, c, rfl, hn, hnc, hc⟩ := hr.shape
  have hnr := hn
  simp only [List.length_map] at hn
  refine calls_of_W Tryz.func122 rfl rfl ?_
  repeat (first | refine byW ?_ | (refine byV ?_; intro w hw))
  refine L_step rfl rfl (s_makeMap (K := 9) (α := ByteArray) (f := Value.bool) hw fun bm w hw => ?_)
  repeat (first | refine byW ?_ | (refine byV ?_; intro w hw))
  refine W_loop (fun μ ρ w => ∃ (k : Nat), μ + k = n ∧ Has ρ [(3, .map (some bm)), (7, .slice a n c), (8, .int .i64 n), (9, .int .i64 k)] ∧ (xs.take k).Nodup ∧ Wd Γ (Res.mpT Tryz.prog 9 Value.bool bm (seenL (xs.take k)) :: S) w) n ⟨0, by omega, ⟨rfl, rfl, rfl, rfl, trivial⟩, by simp, hw⟩ ?_
  clear hw
  rintro μ ρ w ⟨k, hk, hρ, hnd, hw⟩
  have hr1 : RdS Γ (Res.mpT Tryz.prog 9 Value.bool bm (seenL (xs.take k)) :: S) (.slice a n c) 1 (strRows xs) := hr.cons
  rw [hρ.eq]
  repeat (first | refine byW ?_ | (refine byV ?_; intro w hw))
  refine W_cond rfl (fun h => ?_) (fun h => ?_)
  · have hkn : k < n := by simpa using h
    obtain ⟨x, hx⟩ := get_lt (l := xs) (k := k) (by omega)
    repeat (first | refine byW ?_ | (refine byV ?_; intro w hw))
    refine W_cond rfl (fun h2 => ?_) (fun h2 => ?_)
    · have hm : x ∈ xs.take k := Classical.byContradiction fun hm => by rw [seen_none hm] at h2; cases h2
      repeat (first | refine byW ?_ | (refine byV ?_; intro w hw))
      exact ⟨_, rfl, ret_b rfl (decide_eq_false (not_nodup_at hx hm)).symm, hw.drop⟩
    · have hm : x ∉ xs.take k := fun hm => by rw [seen_some hm] at h2; cases h2
      repeat (first | refine byW ?_ | (refine byV ?_; intro w hw))
      refine lMapUpdS (i := 0) (f := Value.bool) (v := true) ?_
      intro w hw
      rw [seen_set hm, ← take_succ_of hx] at hw
      repeat (first | refine byW ?_ | (refine byV ?_; intro w hw))
      exact ⟨μ - 1, by omega, k + 1, by omega, ⟨rfl, rfl, rfl, rfl, trivial⟩, by rw [take_succ_of hx]; exact nodup_snoc.2 ⟨hnd, hm⟩, hw⟩
  · have hkn : ¬ k < n := by simpa using h
    rw [List.take_of_length_le (by omega)] at hnd
    repeat (first | refine byW ?_ | (refine byV ?_; intro w hw))
    exact ⟨_, rfl, ret_b rfl (decide_eq_true hnd).symm, hw.drop⟩
instance pg_distinct_string {Γ : Gho} {v : Value} {xs : List (ByteArray)} [hr : SlC Γ v 1 (strRows xs)] : PG Tryz.prog Γ 122 [v] (.bool (decide xs.Nodup)) := ⟨fun S w hw => distinct_string_any hr.h.rdS hw⟩

theorem distinct_pairint_any {Γ : Gho} {S : List Res} {w : World} {v : Value} {xs : List (Int × Int)} (hr : RdS Γ S v 2 (pairRows xs)) (hw : Wd Γ S w) : Calls Tryz.prog 123 #[v] w fun e w' => e = .returned (.bool (decide xs.Nodup)) ∧ Wd Γ S w' := by
  obtain ⟨a, n, c, rfl, hn, hnc, hc⟩ := hr.shape
  have hnr := hn
  simp only [List.length_map] at hn
  refine calls_of_W Tryz.func123 rfl rfl ?_
  repeat (first | refine byW ?_ | (refine byV ?_; intro w hw))
  refine L_step rfl rfl (s_makeMap (K := 143) (α := Int × Int) (f := Value.bool) hw fun bm w hw => ?_)
  repeat (first | refine byW ?_ | (refine byV ?_; intro w hw))
  refine W_loop (fun μ ρ w => ∃ (k : Nat), μ + k = n ∧ Has ρ [(3, .map (some bm)), (7, .slice a n c), (8, .int .i64 n), (9, .int .i64 k)] ∧ (xs.take k).Nodup ∧ Wd Γ (Res.mpT Tryz.prog 143 Value.bool bm (seenL (xs.take k)) :: S) w) n ⟨0, by omega, ⟨rfl, rfl, rfl, rfl, trivial⟩, by simp, hw⟩ ?_
  clear hw
  rintro μ ρ w ⟨k, hk, hρ, hnd, hw⟩
  have hr1 : RdS Γ (Res.mpT Tryz.prog 143 Value.bool bm (seenL (xs.take k)) :: S) (.slice a n c) 2 (pairRows xs) := hr.cons
  rw [hρ.eq]
  repeat (first | refine byW ?_ | (refine byV ?_; intro w hw))
  refine W_cond rfl (fun h => ?_) (fun h => ?_)
  · have hkn : k < n := by simpa using h
    obtain ⟨x, hx⟩ := get_lt (l := xs) (k := k) (by omega)
    repeat (first | refine byW ?_ | (refine byV ?_; intro w hw))
    refine lAlloc ?_
    intro b5 w hw
    refine lStore ?_
    intro w hw
    have hw : Wd Γ (.blk b5 (.cells #[.int .i64 x.1, .int .i64 x.2] 143) :: Res.mpT Tryz.prog 143 Value.bool bm (seenL (xs.take k)) :: S) w := hw
    repeat (first | refine byW ?_ | (refine byV ?_; intro w hw))
    letI hdm : Decidable (x ∈ xs.take k) := Classical.propDecidable _
    refine L_y rfl rfl (v := .bool (decide (x ∈ xs.take k))) ?_ ?_
    · by_cases hm : x ∈ xs.take k
      · rw [decide_eq_true hm]
        exact y_lookup_some (P := Tryz.prog) (K := 143) (α := Int × Int) (f := Value.bool) (i := 1) hw rfl rfl rfl (seen_some hm) false
      · rw [decide_eq_false hm]
        exact y_lookup_none (P := Tryz.prog) (K := 143) (α := Int × Int) (f := Value.bool) (i := 1) hw rfl rfl rfl (seen_none hm) false
    repeat (first | refine byW ?_ | (refine byV ?_; intro w hw))
    refine W_cond rfl (fun h2 => ?_) (fun h2 => ?_)
    · have hm : x ∈ xs.take k := by simpa using h2
      repeat (first | refine byW ?_ | (refine byV ?_; intro w hw))
      exact ⟨_, rfl, ret_b rfl (decide_eq_false (not_nodup_at hx hm)).symm, hw.drop.drop⟩
    · have hm : x ∉ xs.take k := by simpa using h2
      repeat (first | refine byW ?_ | (refine byV ?_; intro w hw))
      refine L_step rfl rfl (s_mapUpdate (P := Tryz.prog) (K := 143) (α := Int × Int) (f := Value.bool) (i := 1) (v := true) hw rfl rfl rfl rfl fun w hw => ?_)
      rw [seen_set hm, ← take_succ_of hx] at hw
      repeat (first | refine byW ?_ | (refine byV ?_; intro w hw))
      exact ⟨μ - 1, by omega, k + 1, by omega, ⟨rfl, rfl, rfl, rfl, trivial⟩, by rw [take_succ_of hx]; exact nodup_snoc.2 ⟨hnd, hm⟩, hw.drop⟩
  · have hkn : ¬ k < n := by simpa using h
    rw [List.take_of_length_le (by omega)] at hnd
    repeat (first | refine byW ?_ | (refine byV ?_; intro w hw))
    exact ⟨_, rfl, ret_b rfl (decide_eq_true hnd).symm, hw.drop⟩
instance pg_distinct_pairint {Γ : Gho} {v : Value} {xs : List (Int × Int)} [hr : SlC Γ v 2 (pairRows xs)] : PG Tryz.prog Γ 123 [v] (.bool (decide xs.Nodup)) := ⟨fun S w hw => distinct_pairint_any hr.h.rdS hw⟩

end Go.Proofs.YtimbobmmijgkiaaGreatDoor
end
/- Validate's checks of names and counts (loops printed by a program). -/
section
open Go Mk
namespace Go.Proofs.YtimbobmmijgkiaaGreatDoor
set_option maxHeartbeats 4000000
attribute [local irreducible] Calls

def inTextC (b : UInt8) : Bool := !(((decide (((b.toNat : Nat) : Int) < 32) || decide (126 < ((b.toNat : Nat) : Int))) || decide (((b.toNat : Nat) : Int) = 34)) || decide (((b.toNat : Nat) : Int) = 92))
def textB (s : ByteArray) : Bool := s.data.toList.all inTextC
instance pc_isText (s : ByteArray) [hs : SB s] : PC Tryz.prog 110 [.string s] (.bool (textB s)) := ⟨fun w => by
  have hs := hs.h
  have hl := bts_len s
  refine calls_of_W Tryz.func110 rfl rfl ?_
  repeat (first | refine byW ?_ | (refine byV ?_; intro w hw))
  refine W_loop (fun μ ρ w' => ∃ k : Nat, μ + k = s.size ∧ Has ρ [(0, .string s), (3, .int .i64 k)] ∧ (∀ i x, i < k → (bts s)[i]? = some x → inTextC x = true) ∧ w' = w) s.size ⟨0, by omega, ⟨rfl, rfl, trivial⟩, fun i x h => by omega, rfl⟩ ?_
  rintro μ ρ w' ⟨k, hk, hρ, hall, rfl⟩
  rw [hρ.eq]
  repeat (first | refine byW ?_ | (refine byV ?_; intro w hw))
  refine W_cond rfl (fun h => ?_) (fun h => ?_)
  · have hkn : k < s.size := by simpa using h
    obtain ⟨c, hc⟩ := get_lt (l := bts s) (k := k) (by omega)
    have hg : s.data.toList.getD (k : Int).toNat 0 = c := by
      show (bts s).getD k 0 = c
      rw [List.getD_eq_getElem?_getD, hc]; rfl
    repeat (first | refine byW ?_ | (refine byV ?_; intro w hw))
    rw [hg]
    refine W_cond rfl (fun h2 => ?_) (fun h2 => ?_)
    · have hf : inTextC c = false := by unfold inTextC; rw [h2]; rfl
      repeat (first | refine byW ?_ | (refine byV ?_; intro w hw))
      exact ⟨_, rfl, ret_b rfl (all_no hc hf).symm, rfl⟩
    · have hf : inTextC c = true := by unfold inTextC; rw [h2]; rfl
      repeat (first | refine byW ?_ | (refine byV ?_; intro w hw))
      exact ⟨μ - 1, by omega, k + 1, by omega, ⟨rfl, rfl, trivial⟩, all_step hall hc hf, rfl⟩
  · have hkn : ¬ k < s.size := by simpa using h
    repeat (first | refine byW ?_ | (refine byV ?_; intro w hw))
    exact ⟨_, rfl, ret_b rfl (all_end hall (by omega)).symm, rfl⟩⟩
def headB (H : HwT) : Bool := (decide (H.Name ≠ ⟨#[]⟩) && decide (H.Name.size ≤ 24)) && textB H.Name
def namesB (H : HwT) : Bool := ((headB H && H.Caches.all fun c => nameS c.Name) && H.Mems.all fun c => nameS c.Name) && H.Devs.all fun c => nameS c.Name
theorem all_cnames (cs : List CacheH) : ((cs.map CacheH.T).all fun c => nameS c.Name) = cs.all fun c => nameS c.Name := by rw [List.all_map]; rfl
theorem take_all {α : Type} {l : List α} {k : Nat} {x : α} {p : α → Bool} {a : Bool} (hx : l[k]? = some x) : Value.bool ((a && (l.take k).all p) && p x) = .bool (a && (l.take (k + 1)).all p) := by
  rw [take_succ_of hx, List.all_append]; simp [Bool.and_assoc]
theorem andB {p q : Prop} [Decidable p] [Decidable q] {a b : Bool} (h : p ↔ q) (h2 : a = b) : (decide p && a) = (decide q && b) := by rw [decide_eq_decide.2 h, h2]
instance pg_namesOK {Γ : Gho} {u : Value} {H : HwT} [hh : HwR Γ u H] : PG Tryz.prog Γ 48 [u] (.bool (namesB H)) := ⟨fun S w hw => by
  obtain ⟨a1, n1, c1, a2, n2, c2, a3, n3, c3, a4, n4, c4, a5, n5, c5, cs, rfl, hcs, hok, hsz, r1, r2, r3, r4, r5⟩ := hh.h
  obtain ⟨hn1, hm1, hx1⟩ := rep_facts r1
  obtain ⟨hn2, hm2, hx2⟩ := rep_facts r2
  obtain ⟨hn3, hm3, hx3⟩ := rep_facts r3
  obtain ⟨hn4, hm4, hx4⟩ := rep_facts r4
  obtain ⟨hn5, hm5, hx5⟩ := rep_facts r5
  simp only [List.length_map] at hn1 hn2 hn3 hn4 hn5
  refine calls_of_W Tryz.func48 rfl rfl ?_
  repeat (first | refine byW ?_ | (refine byV ?_; intro w hw))
  refine lBox ?_
  intro b1 w hw
  have hw : Wd Γ (.blk b1 (.cells #[.string H.Name, .slice a1 n1 c1, .slice a2 n2 c2, .slice a3 n3 c3, .slice a4 n4 c4, .slice a5 n5 c5] 35) :: S) w := hw
  obtain ⟨z1, z2, z3, z4⟩ := hsz
  haveI : SB H.Name := ⟨z1⟩
  repeat (first | refine byW ?_ | (refine byV ?_; intro w hw))
  have hk0 : ((decide (H.Name ≠ ⟨#[]⟩) && decide ((H.Name.size : Int) ≤ 24)) && textB H.Name) = headB H := by
    unfold headB; rw [show decide ((H.Name.size : Int) ≤ 24) = decide (H.Name.size ≤ 24) from decide_eq_decide.2 (by omega)]
  rw [hk0]
  have hq : (headB H) = (headB H && (cs.take 0).all fun c => nameS c.Name) := by simp
  rw [hq]
  repeat (first | refine byW ?_ | (refine byV ?_; intro w hw))
  refine W_loop (fun μ ρ w => ∃ (k : Nat), μ + k = n2 ∧ Has ρ [(1, .pointer (some ⟨b1, 0, none⟩)), (3, .bool (headB H && (cs.take k).all fun c => nameS c.Name)), (25, .slice a2 n2 c2), (26, .int .i64 n2), (27, .int .i64 k)] ∧ Wd Γ (.blk b1 (.cells #[.string H.Name, .slice a1 n1 c1, .slice a2 n2 c2, .slice a3 n3 c3, .slice a4 n4 c4, .slice a5 n5 c5] 35) :: S) w) n2 ⟨0, by omega, ⟨rfl, rfl, rfl, rfl, rfl, trivial⟩, hw⟩ ?_
  clear hw hq
  rintro μ ρ w ⟨k, hk, hρ, hw⟩
  rw [hρ.eq]
  repeat (first | refine byW ?_ | (refine byV ?_; intro w hw))
  refine W_cond rfl (fun h => ?_) (fun h => ?_)
  · have hkn : k < n2 := by simpa using h
    obtain ⟨x, hx⟩ := get_lt (l := cs) (k := k) (by omega)
    haveI : SB x.Name := ⟨z2 x.T (by rw [← hcs]; exact List.mem_map.2 ⟨x, List.mem_of_getElem? hx, rfl⟩)⟩
    repeat (first | refine byW ?_ | (refine byV ?_; intro w hw))
    refine lAlloc ?_
    intro b9 w hw
    refine lStore ?_
    intro w hw
    have hw : Wd Γ (.blk b9 (.cells (cC x).toArray 79) :: .blk b1 (.cells #[.string H.Name, .slice a1 n1 c1, .slice a2 n2 c2, .slice a3 n3 c3, .slice a4 n4 c4, .slice a5 n5 c5] 35) :: S) w := hw
    repeat (first | refine byW ?_ | (refine byV ?_; intro w hw))
    exact ⟨μ - 1, by omega, k + 1, by omega, ⟨rfl, take_all hx, rfl, rfl, rfl, trivial⟩, hw.drop⟩
  have hkn : ¬ k < n2 := by simpa using h
  rw [List.take_of_length_le (l := cs) (by omega)]
  clear h hkn hρ hk
  have hq : ((headB H && cs.all fun c => nameS c.Name)) = ((headB H && cs.all fun c => nameS c.Name) && (H.Mems.take 0).all fun c => nameS c.Name) := by simp
  rw [hq]
  repeat (first | refine byW ?_ | (refine byV ?_; intro w hw))
  refine W_loop (fun μ ρ w => ∃ (k : Nat), μ + k = n4 ∧ Has ρ [(1, .pointer (some ⟨b1, 0, none⟩)), (3, .bool ((headB H && cs.all fun c => nameS c.Name) && (H.Mems.take k).all fun c => nameS c.Name)), (39, .slice a4 n4 c4), (40, .int .i64 n4), (41, .int .i64 k)] ∧ Wd Γ (.blk b1 (.cells #[.string H.Name, .slice a1 n1 c1, .slice a2 n2 c2, .slice a3 n3 c3, .slice a4 n4 c4, .slice a5 n5 c5] 35) :: S) w) n4 ⟨0, by omega, ⟨rfl, rfl, rfl, rfl, rfl, trivial⟩, hw⟩ ?_
  clear hw hq
  rintro μ ρ w ⟨k, hk, hρ, hw⟩
  rw [hρ.eq]
  repeat (first | refine byW ?_ | (refine byV ?_; intro w hw))
  refine W_cond rfl (fun h => ?_) (fun h => ?_)
  · have hkn : k < n4 := by simpa using h
    obtain ⟨x, hx⟩ := get_lt (l := H.Mems) (k := k) (by omega)
    haveI : SB x.Name := ⟨z3 x (List.mem_of_getElem? hx)⟩
    repeat (first | refine byW ?_ | (refine byV ?_; intro w hw))
    refine lAlloc ?_
    intro b9 w hw
    refine lStore ?_
    intro w hw
    have hw : Wd Γ (.blk b9 (.cells (enc x).toArray 47) :: .blk b1 (.cells #[.string H.Name, .slice a1 n1 c1, .slice a2 n2 c2, .slice a3 n3 c3, .slice a4 n4 c4, .slice a5 n5 c5] 35) :: S) w := hw
    repeat (first | refine byW ?_ | (refine byV ?_; intro w hw))
    exact ⟨μ - 1, by omega, k + 1, by omega, ⟨rfl, take_all hx, rfl, rfl, rfl, trivial⟩, hw.drop⟩
  have hkn : ¬ k < n4 := by simpa using h
  rw [List.take_of_length_le (l := H.Mems) (by omega)]
  clear h hkn hρ hk
  have hq : (((headB H && cs.all fun c => nameS c.Name) && H.Mems.all fun c => nameS c.Name)) = (((headB H && cs.all fun c => nameS c.Name) && H.Mems.all fun c => nameS c.Name) && (H.Devs.take 0).all fun c => nameS c.Name) := by simp
  rw [hq]
  repeat (first | refine byW ?_ | (refine byV ?_; intro w hw))
  refine W_loop (fun μ ρ w => ∃ (k : Nat), μ + k = n5 ∧ Has ρ [(1, .pointer (some ⟨b1, 0, none⟩)), (3, .bool (((headB H && cs.all fun c => nameS c.Name) && H.Mems.all fun c => nameS c.Name) && (H.Devs.take k).all fun c => nameS c.Name)), (53, .slice a5 n5 c5), (54, .int .i64 n5), (55, .int .i64 k)] ∧ Wd Γ (.blk b1 (.cells #[.string H.Name, .slice a1 n1 c1, .slice a2 n2 c2, .slice a3 n3 c3, .slice a4 n4 c4, .slice a5 n5 c5] 35) :: S) w) n5 ⟨0, by omega, ⟨rfl, rfl, rfl, rfl, rfl, trivial⟩, hw⟩ ?_
  clear hw hq
  rintro μ ρ w ⟨k, hk, hρ, hw⟩
  rw [hρ.eq]
  repeat (first | refine byW ?_ | (refine byV ?_; intro w hw))
  refine W_cond rfl (fun h => ?_) (fun h => ?_)
  · have hkn : k < n5 := by simpa using h
    obtain ⟨x, hx⟩ := get_lt (l := H.Devs) (k := k) (by omega)
    haveI : SB x.Name := ⟨z4 x (List.mem_of_getElem? hx)⟩
    repeat (first | refine byW ?_ | (refine byV ?_; intro w hw))
    refine lAlloc ?_
    intro b9 w hw
    refine lStore ?_
    intro w hw
    have hw : Wd Γ (.blk b9 (.cells (enc x).toArray 84) :: .blk b1 (.cells #[.string H.Name, .slice a1 n1 c1, .slice a2 n2 c2, .slice a3 n3 c3, .slice a4 n4 c4, .slice a5 n5 c5] 35) :: S) w := hw
    repeat (first | refine byW ?_ | (refine byV ?_; intro w hw))
    exact ⟨μ - 1, by omega, k + 1, by omega, ⟨rfl, take_all hx, rfl, rfl, rfl, trivial⟩, hw.drop⟩
  have hkn : ¬ k < n5 := by simpa using h
  rw [List.take_of_length_le (l := H.Devs) (by omega)]
  clear h hkn hρ hk
  repeat (first | refine byW ?_ | (refine byV ?_; intro w hw))
  refine ⟨_, rfl, ret_b rfl ?_, hw.drop⟩
  unfold namesB
  rw [← hcs, all_cnames]⟩
instance pg_countsOK {Γ : Gho} {u : Value} {H : HwT} [hh : HwR Γ u H] : PG Tryz.prog Γ 49 [u] (.bool (countsB H)) := ⟨fun S w hw => by
  obtain ⟨a1, n1, c1, a2, n2, c2, a3, n3, c3, a4, n4, c4, a5, n5, c5, cs, rfl, hcs, hok, hsz, r1, r2, r3, r4, r5⟩ := hh.h
  obtain ⟨hn1, hm1, hx1⟩ := rep_facts r1
  obtain ⟨hn2, hm2, hx2⟩ := rep_facts r2
  obtain ⟨hn3, hm3, hx3⟩ := rep_facts r3
  obtain ⟨hn4, hm4, hx4⟩ := rep_facts r4
  obtain ⟨hn5, hm5, hx5⟩ := rep_facts r5
  simp only [List.length_map] at hn1 hn2 hn3 hn4 hn5
  refine calls_of_W Tryz.func49 rfl rfl ?_
  repeat (first | refine byW ?_ | (refine byV ?_; intro w hw))
  refine lBox ?_
  intro b1 w hw
  have hw : Wd Γ (.blk b1 (.cells #[.string H.Name, .slice a1 n1 c1, .slice a2 n2 c2, .slice a3 n3 c3, .slice a4 n4 c4, .slice a5 n5 c5] 35) :: S) w := hw
  repeat (first | refine byW ?_ | (refine byV ?_; intro w hw))
  refine ⟨_, rfl, ret_b rfl ?_, hw.drop⟩
  have hl : H.Caches.length = cs.length := by rw [← hcs]; simp
  unfold countsB
  rw [hl, hn1, hn2, hn3, hn4, hn5]
  simp only [Bool.and_assoc]
  refine andB (by omega) (andB (by omega) (andB (by omega) (andB (by omega) (andB (by omega) ?_))))
  exact decide_eq_decide.2 (by omega)⟩
end Go.Proofs.YtimbobmmijgkiaaGreatDoor
end
/- Validate's checks: nothing is defined twice (loops printed by a program). -/
section
open Go Mk
namespace Go.Proofs.YtimbobmmijgkiaaGreatDoor
set_option maxHeartbeats 8000000
attribute [local irreducible] Calls

theorem own_len {Γ : Gho} {S : List Res} {w : World} {i e sz n c : Nat} {a : Option Addr} {rows : List (List Value)} (hw : Wd Γ S w) (hi : S[i]? = some (.own (.slice a n c) e sz rows)) : n = rows.length := by
  obtain ⟨_, _, _, h1, h2, -, -⟩ := hw.own_shape hi; cases h1; exact h2
def linkKey (l : LinkT) : Int × Int := (if l.B < l.A then l.B else l.A, if l.A < l.B then l.B else l.A)
def uniqueB (H : HwT) : Bool := (H.Caches.all fun c => decide c.Cores.Nodup) && (decide (H.Cores.map (·.ID)).Nodup && decide (H.Caches.map (·.Name)).Nodup && decide (H.Mems.map (·.Name)).Nodup && decide (H.Devs.map (·.Name)).Nodup && decide (H.Devs.map (·.IRQ)).Nodup && decide (H.Links.map linkKey).Nodup)
theorem all_cuniq (cs : List CacheH) : ((cs.map CacheH.T).all fun c => decide c.Cores.Nodup) = cs.all fun c => decide c.Cores.Nodup := by rw [List.all_map]; rfl
theorem counts_le {H : HwT} (h : countsB H = true) : 1 ≤ H.Cores.length ∧ H.Cores.length ≤ 32 ∧ H.Caches.length ≤ 64 ∧ H.Links.length ≤ 256 ∧ H.Mems.length ≤ 64 ∧ H.Devs.length ≤ 32 := by
  unfold countsB at h
  simp only [Bool.and_eq_true, decide_eq_true_eq] at h
  omega
instance : TBA Tryz.prog 143 1 [.int .i64 0, .int .i64 0] := ⟨by kernel_rfl, by kernel_rfl⟩
section
attribute [local semireducible] gv
/-- A call behind a guard whose answer is known. -/
theorem lCallGd {P : Program} {n : Nat} {opa : Array Oper} {QQ : Exit → Fr → World → Prop} {rest : List Oper} {ρ : Fr} {w : World} {Γ : Gho} {S : List Res} {d : Option Tmp} {ty : TypeId} {pos : String} {es : Array Edge} {f j dj : Nat} {want c : Bool} {args : List Operand} {tys : Array TypeId} {vs : List Value} {v : Value} [FnOk P f]
    (hcall : c = true → Calls P f vs.toArray w fun e w' => e = .returned v ∧ Wd Γ S w') (h : ∀ w', Wd Γ S w' → L P n opa QQ rest (putO ρ d (gv c v)) w') (hw : Wd Γ S w := by exact hw) (hj : (opa[j]?).bind (·.dst) = some dj := by exact rfl) (hjn : okDst n (some dj) = true := by exact rfl) (hc : GuardIs (ρ dj) want c := by exact byGC) (hd : okDst n d = true := by exact rfl) (ha : c = true → EvL ρ args vs := by intro hc; exact byEVG) :
    L P n opa QQ (⟨d, .call { callee := .value (.func f), args := args.toArray, argTypes := tys }, ty, pos, es, some (j, want)⟩ :: rest) ρ w :=
  lGC hj hjn hd hc (fun hct => lCall ((hcall hct).mono fun e w' ⟨h1, h2⟩ => ⟨v, h1, by have := h w' h2; rw [hct] at this; exact this⟩) (ha hct) hd) (fun hcf => by have := h w hw; rw [hcf] at this; exact this)
end
theorem rows_snocI {α : Type} {f : α → Int} {l : List α} {k : Nat} {x : α} (hx : l[k]? = some x) : intRows ((l.take k).map f) ++ [[.int .i64 (f x)]] = intRows ((l.take (k + 1)).map f) := by rw [take_succ_of hx]; simp [intRows]
theorem rows_snocS {α : Type} {f : α → ByteArray} {l : List α} {k : Nat} {x : α} (hx : l[k]? = some x) : strRows ((l.take k).map f) ++ [[.string (f x)]] = strRows ((l.take (k + 1)).map f) := by rw [take_succ_of hx]; simp [strRows]
theorem rows_snocP {α : Type} {f : α → Int × Int} {l : List α} {k : Nat} {x : α} (hx : l[k]? = some x) : pairRows ((l.take k).map f) ++ [[.int .i64 (f x).1, .int .i64 (f x).2]] = pairRows ((l.take (k + 1)).map f) := by rw [take_succ_of hx]; simp [pairRows]
theorem unique_any {Γ : Gho} {S : List Res} {w : World} {u : Value} {H : HwT} [hh : HwR Γ u H] (hcnt : countsB H = true) (hw : Wd Γ S w) : Calls Tryz.prog 53 #[u] w fun e w' => e = .returned (.bool (uniqueB H)) ∧ Wd Γ S w' := by
  obtain ⟨-, l1, l2, l3, l4, l5⟩ := counts_le hcnt
  obtain ⟨a1, n1, c1, a2, n2, c2, a3, n3, c3, a4, n4, c4, a5, n5, c5, cs, rfl, hcs, hok, hsz, r1, r2, r3, r4, r5⟩ := hh.h
  obtain ⟨hn1, hm1, hx1⟩ := rep_facts r1
  obtain ⟨hn2, hm2, hx2⟩ := rep_facts r2
  obtain ⟨hn3, hm3, hx3⟩ := rep_facts r3
  obtain ⟨hn4, hm4, hx4⟩ := rep_facts r4
  obtain ⟨hn5, hm5, hx5⟩ := rep_facts r5
  simp only [List.length_map] at hn1 hn2 hn3 hn4 hn5
  have hcl : cs.length = H.Caches.length := by rw [← hcs]; simp
  refine calls_of_W Tryz.func53 rfl rfl ?_
  repeat (first | refine byW ?_ | (refine byV ?_; intro w hw))
  refine lBox ?_
  intro b1 w hw
  have hw : Wd Γ (.blk b1 (.cells #[.string H.Name, .slice a1 n1 c1, .slice a2 n2 c2, .slice a3 n3 c3, .slice a4 n4 c4, .slice a5 n5 c5] 35) :: S) w := hw
  have hw : Wd Γ (.own (.slice none 0 0) 3 1 (intRows []) :: .own (.slice none 0 0) 3 1 (intRows []) :: .own (.slice none 0 0) 9 1 (strRows []) :: .own (.slice none 0 0) 9 1 (strRows []) :: .own (.slice none 0 0) 9 1 (strRows []) :: .own (.slice none 0 0) 143 2 (pairRows []) :: .blk b1 (.cells #[.string H.Name, .slice a1 n1 c1, .slice a2 n2 c2, .slice a3 n3 c3, .slice a4 n4 c4, .slice a5 n5 c5] 35) :: S) w := Wd.addNil (Wd.addNil (Wd.addNil (Wd.addNil (Wd.addNil (Wd.addNil (hw))))))
  repeat (first | refine byW ?_ | (refine byV ?_; intro w hw))
  refine W_loop (fun μ ρ w => ∃ (k : Nat) (q3 : Option Addr) (m3 d3 : Nat), μ + k = n1 ∧ Has ρ [(1, .pointer (some ⟨b1, 0, none⟩)), (3, .slice q3 m3 d3), (4, .slice none 0 0), (5, .slice none 0 0), (6, .slice none 0 0), (7, .slice none 0 0), (8, .slice none 0 0), (20, .slice a1 n1 c1), (21, .int .i64 n1), (22, .int .i64 k)] ∧ Wd Γ (.own (.slice q3 m3 d3) 3 1 (intRows ((H.Cores.take k).map (fun c => c.ID))) :: .own (.slice none 0 0) 3 1 (intRows []) :: .own (.slice none 0 0) 9 1 (strRows []) :: .own (.slice none 0 0) 9 1 (strRows []) :: .own (.slice none 0 0) 9 1 (strRows []) :: .own (.slice none 0 0) 143 2 (pairRows []) :: .blk b1 (.cells #[.string H.Name, .slice a1 n1 c1, .slice a2 n2 c2, .slice a3 n3 c3, .slice a4 n4 c4, .slice a5 n5 c5] 35) :: S) w) n1 ⟨0, none, 0, 0, by omega, ⟨rfl, rfl, rfl, rfl, rfl, rfl, rfl, rfl, rfl, rfl, trivial⟩, hw⟩ ?_
  clear hw
  rintro μ ρ w ⟨k, q3, m3, d3, hk, hρ, hw⟩
  have hm3 := own_len (i := 0) hw rfl
  simp only [intRows, strRows, pairRows, List.length_map, List.length_take] at hm3
  rw [hρ.eq]
  repeat (first | refine byW ?_ | (refine byV ?_; intro w hw))
  refine W_cond rfl (fun h => ?_) (fun h => ?_)
  · have hkn : k < n1 := by simpa using h
    obtain ⟨x, hx⟩ := get_lt (l := H.Cores) (k := k) (by omega)
    repeat (first | refine byW ?_ | (refine byV ?_; intro w hw))
    refine lAlloc ?_
    intro b9 w hw
    refine lStore ?_
    intro w hw
    have hw : Wd Γ (.blk b9 (.cells (enc x).toArray 77) :: .own (.slice q3 m3 d3) 3 1 (intRows ((H.Cores.take k).map (fun c => c.ID))) :: .own (.slice none 0 0) 3 1 (intRows []) :: .own (.slice none 0 0) 9 1 (strRows []) :: .own (.slice none 0 0) 9 1 (strRows []) :: .own (.slice none 0 0) 9 1 (strRows []) :: .own (.slice none 0 0) 143 2 (pairRows []) :: .blk b1 (.cells #[.string H.Name, .slice a1 n1 c1, .slice a2 n2 c2, .slice a3 n3 c3, .slice a4 n4 c4, .slice a5 n5 c5] 35) :: S) w := hw
    repeat (first | refine byW ?_ | (refine byV ?_; intro w hw))
    refine lBuildSlice [[.int .i64 x.ID]] ?_
    intro ab w hw
    refine lApp (i := 2) (rows2 := [[.int .i64 x.ID]]) ?_ (Wd.own_rd (i := 0) hw rfl)
    intro v' w hw
    obtain ⟨q3', m3', d3', rfl, -, -, -⟩ := hw.own_shape (i := 2) rfl
    have hw := hw.drop
    have hw : Wd Γ (.blk b9 (.cells (enc x).toArray 77) :: .own (.slice q3' m3' d3') 3 1 (intRows ((H.Cores.take (k + 1)).map (fun c => c.ID))) :: .own (.slice none 0 0) 3 1 (intRows []) :: .own (.slice none 0 0) 9 1 (strRows []) :: .own (.slice none 0 0) 9 1 (strRows []) :: .own (.slice none 0 0) 9 1 (strRows []) :: .own (.slice none 0 0) 143 2 (pairRows []) :: .blk b1 (.cells #[.string H.Name, .slice a1 n1 c1, .slice a2 n2 c2, .slice a3 n3 c3, .slice a4 n4 c4, .slice a5 n5 c5] 35) :: S) w := by
      rw [← rows_snocI hx]; exact hw
    repeat (first | refine byW ?_ | (refine byV ?_; intro w hw))
    exact ⟨μ - 1, by omega, k + 1, _, _, _, by omega, ⟨rfl, rfl, rfl, rfl, rfl, rfl, rfl, rfl, rfl, rfl, trivial⟩, hw.drop⟩
  have hkn : ¬ k < n1 := by simpa using h
  rw [List.take_of_length_le (l := H.Cores) (by omega)] at hw
  clear h hkn hρ hk hm3
  repeat (first | refine byW ?_ | (refine byV ?_; intro w hw))
  refine W_loop (fun μ ρ w => ∃ (k : Nat) (q5 : Option Addr) (m5 d5 : Nat), μ + k = n2 ∧ Has ρ [(1, .pointer (some ⟨b1, 0, none⟩)), (3, .slice q3 m3 d3), (4, .slice none 0 0), (5, .slice q5 m5 d5), (6, .slice none 0 0), (7, .slice none 0 0), (8, .slice none 0 0), (33, .slice a2 n2 c2), (34, .int .i64 n2), (35, .int .i64 k)] ∧ (∀ i x, i < k → cs[i]? = some x → (fun c : CacheH => decide c.Cores.Nodup) x = true) ∧ Wd Γ (.own (.slice q3 m3 d3) 3 1 (intRows (H.Cores.map (fun c => c.ID))) :: .own (.slice none 0 0) 3 1 (intRows []) :: .own (.slice q5 m5 d5) 9 1 (strRows ((cs.take k).map (fun c => c.Name))) :: .own (.slice none 0 0) 9 1 (strRows []) :: .own (.slice none 0 0) 9 1 (strRows []) :: .own (.slice none 0 0) 143 2 (pairRows []) :: .blk b1 (.cells #[.string H.Name, .slice a1 n1 c1, .slice a2 n2 c2, .slice a3 n3 c3, .slice a4 n4 c4, .slice a5 n5 c5] 35) :: S) w) n2 ⟨0, none, 0, 0, by omega, ⟨rfl, rfl, rfl, rfl, rfl, rfl, rfl, rfl, rfl, rfl, trivial⟩, fun i x h => by omega, hw⟩ ?_
  clear hw
  rintro μ ρ w ⟨k, q5, m5, d5, hk, hρ, hall, hw⟩
  have hm5 := own_len (i := 2) hw rfl
  simp only [intRows, strRows, pairRows, List.length_map, List.length_take] at hm5
  rw [hρ.eq]
  repeat (first | refine byW ?_ | (refine byV ?_; intro w hw))
  refine W_cond rfl (fun h => ?_) (fun h => ?_)
  · have hkn : k < n2 := by simpa using h
    obtain ⟨x, hx⟩ := get_lt (l := cs) (k := k) (by omega)
    repeat (first | refine byW ?_ | (refine byV ?_; intro w hw))
    refine lAlloc ?_
    intro b9 w hw
    refine lStore ?_
    intro w hw
    have hw : Wd Γ (.blk b9 (.cells (cC x).toArray 79) :: .own (.slice q3 m3 d3) 3 1 (intRows (H.Cores.map (fun c => c.ID))) :: .own (.slice none 0 0) 3 1 (intRows []) :: .own (.slice q5 m5 d5) 9 1 (strRows ((cs.take k).map (fun c => c.Name))) :: .own (.slice none 0 0) 9 1 (strRows []) :: .own (.slice none 0 0) 9 1 (strRows []) :: .own (.slice none 0 0) 143 2 (pairRows []) :: .blk b1 (.cells #[.string H.Name, .slice a1 n1 c1, .slice a2 n2 c2, .slice a3 n3 c3, .slice a4 n4 c4, .slice a5 n5 c5] 35) :: S) w := hw
    repeat (first | refine byW ?_ | (refine byV ?_; intro w hw))
    refine lBuildSlice [[.string x.Name]] ?_
    intro ab w hw
    refine lApp (i := 4) (rows2 := [[.string x.Name]]) ?_ (Wd.own_rd (i := 0) hw rfl)
    intro v' w hw
    obtain ⟨q5', m5', d5', rfl, -, -, -⟩ := hw.own_shape (i := 4) rfl
    have hw := hw.drop
    have hw : Wd Γ (.blk b9 (.cells (cC x).toArray 79) :: .own (.slice q3 m3 d3) 3 1 (intRows (H.Cores.map (fun c => c.ID))) :: .own (.slice none 0 0) 3 1 (intRows []) :: .own (.slice q5' m5' d5') 9 1 (strRows ((cs.take (k + 1)).map (fun c => c.Name))) :: .own (.slice none 0 0) 9 1 (strRows []) :: .own (.slice none 0 0) 9 1 (strRows []) :: .own (.slice none 0 0) 143 2 (pairRows []) :: .blk b1 (.cells #[.string H.Name, .slice a1 n1 c1, .slice a2 n2 c2, .slice a3 n3 c3, .slice a4 n4 c4, .slice a5 n5 c5] 35) :: S) w := by
      rw [← rows_snocS hx]; exact hw
    repeat (first | refine byW ?_ | (refine byV ?_; intro w hw))
    refine lCall ?_
    refine (distinct_int_any (RepS.rdS (hok x (List.mem_of_getElem? hx))) hw).mono ?_
    rintro r w ⟨rfl, hw⟩
    refine ⟨_, rfl, ?_⟩
    repeat (first | refine byW ?_ | (refine byV ?_; intro w hw))
    refine W_cond rfl (fun h2 => ?_) (fun h2 => ?_)
    · have hf : (fun c : CacheH => decide c.Cores.Nodup) x = false := by simpa using h2
      repeat (first | refine byW ?_ | (refine byV ?_; intro w hw))
      exact ⟨_, rfl, ret_b rfl (by rw [uniqueB, ← hcs, all_cuniq]; exact (and_no1 (all_no hx hf)).symm), hw.ds [0, 0, 0, 0, 0, 0, 0, 0]⟩
    · have ht : (fun c : CacheH => decide c.Cores.Nodup) x = true := by simpa using h2
      repeat (first | refine byW ?_ | (refine byV ?_; intro w hw))
      exact ⟨μ - 1, by omega, k + 1, _, _, _, by omega, ⟨rfl, rfl, rfl, rfl, rfl, rfl, rfl, rfl, rfl, rfl, trivial⟩, all_step hall hx ht, hw.drop⟩
  have hkn : ¬ k < n2 := by simpa using h
  rw [List.take_of_length_le (l := cs) (by omega)] at hw
  have hA := all_end hall (by omega)
  clear h hkn hρ hk hall hm5
  repeat (first | refine byW ?_ | (refine byV ?_; intro w hw))
  refine W_loop (fun μ ρ w => ∃ (k : Nat) (q6 : Option Addr) (m6 d6 : Nat), μ + k = n4 ∧ Has ρ [(1, .pointer (some ⟨b1, 0, none⟩)), (3, .slice q3 m3 d3), (4, .slice none 0 0), (5, .slice q5 m5 d5), (6, .slice q6 m6 d6), (7, .slice none 0 0), (8, .slice none 0 0), (50, .slice a4 n4 c4), (51, .int .i64 n4), (52, .int .i64 k)] ∧ Wd Γ (.own (.slice q3 m3 d3) 3 1 (intRows (H.Cores.map (fun c => c.ID))) :: .own (.slice none 0 0) 3 1 (intRows []) :: .own (.slice q5 m5 d5) 9 1 (strRows (cs.map (fun c => c.Name))) :: .own (.slice q6 m6 d6) 9 1 (strRows ((H.Mems.take k).map (fun c => c.Name))) :: .own (.slice none 0 0) 9 1 (strRows []) :: .own (.slice none 0 0) 143 2 (pairRows []) :: .blk b1 (.cells #[.string H.Name, .slice a1 n1 c1, .slice a2 n2 c2, .slice a3 n3 c3, .slice a4 n4 c4, .slice a5 n5 c5] 35) :: S) w) n4 ⟨0, none, 0, 0, by omega, ⟨rfl, rfl, rfl, rfl, rfl, rfl, rfl, rfl, rfl, rfl, trivial⟩, hw⟩ ?_
  clear hw
  rintro μ ρ w ⟨k, q6, m6, d6, hk, hρ, hw⟩
  have hm6 := own_len (i := 3) hw rfl
  simp only [intRows, strRows, pairRows, List.length_map, List.length_take] at hm6
  rw [hρ.eq]
  repeat (first | refine byW ?_ | (refine byV ?_; intro w hw))
  refine W_cond rfl (fun h => ?_) (fun h => ?_)
  · have hkn : k < n4 := by simpa using h
    obtain ⟨x, hx⟩ := get_lt (l := H.Mems) (k := k) (by omega)
    repeat (first | refine byW ?_ | (refine byV ?_; intro w hw))
    refine lAlloc ?_
    intro b9 w hw
    refine lStore ?_
    intro w hw
    have hw : Wd Γ (.blk b9 (.cells (enc x).toArray 47) :: .own (.slice q3 m3 d3) 3 1 (intRows (H.Cores.map (fun c => c.ID))) :: .own (.slice none 0 0) 3 1 (intRows []) :: .own (.slice q5 m5 d5) 9 1 (strRows (cs.map (fun c => c.Name))) :: .own (.slice q6 m6 d6) 9 1 (strRows ((H.Mems.take k).map (fun c => c.Name))) :: .own (.slice none 0 0) 9 1 (strRows []) :: .own (.slice none 0 0) 143 2 (pairRows []) :: .blk b1 (.cells #[.string H.Name, .slice a1 n1 c1, .slice a2 n2 c2, .slice a3 n3 c3, .slice a4 n4 c4, .slice a5 n5 c5] 35) :: S) w := hw
    repeat (first | refine byW ?_ | (refine byV ?_; intro w hw))
    refine lBuildSlice [[.string x.Name]] ?_
    intro ab w hw
    refine lApp (i := 5) (rows2 := [[.string x.Name]]) ?_ (Wd.own_rd (i := 0) hw rfl)
    intro v' w hw
    obtain ⟨q6', m6', d6', rfl, -, -, -⟩ := hw.own_shape (i := 5) rfl
    have hw := hw.drop
    have hw : Wd Γ (.blk b9 (.cells (enc x).toArray 47) :: .own (.slice q3 m3 d3) 3 1 (intRows (H.Cores.map (fun c => c.ID))) :: .own (.slice none 0 0) 3 1 (intRows []) :: .own (.slice q5 m5 d5) 9 1 (strRows (cs.map (fun c => c.Name))) :: .own (.slice q6' m6' d6') 9 1 (strRows ((H.Mems.take (k + 1)).map (fun c => c.Name))) :: .own (.slice none 0 0) 9 1 (strRows []) :: .own (.slice none 0 0) 143 2 (pairRows []) :: .blk b1 (.cells #[.string H.Name, .slice a1 n1 c1, .slice a2 n2 c2, .slice a3 n3 c3, .slice a4 n4 c4, .slice a5 n5 c5] 35) :: S) w := by
      rw [← rows_snocS hx]; exact hw
    repeat (first | refine byW ?_ | (refine byV ?_; intro w hw))
    exact ⟨μ - 1, by omega, k + 1, _, _, _, by omega, ⟨rfl, rfl, rfl, rfl, rfl, rfl, rfl, rfl, rfl, rfl, trivial⟩, hw.drop⟩
  have hkn : ¬ k < n4 := by simpa using h
  rw [List.take_of_length_le (l := H.Mems) (by omega)] at hw
  clear h hkn hρ hk hm6
  repeat (first | refine byW ?_ | (refine byV ?_; intro w hw))
  refine W_loop (fun μ ρ w => ∃ (k : Nat) (q7 : Option Addr) (m7 d7 : Nat) (q4 : Option Addr) (m4 d4 : Nat), μ + k = n5 ∧ Has ρ [(1, .pointer (some ⟨b1, 0, none⟩)), (3, .slice q3 m3 d3), (4, .slice q4 m4 d4), (5, .slice q5 m5 d5), (6, .slice q6 m6 d6), (7, .slice q7 m7 d7), (8, .slice none 0 0), (63, .slice a5 n5 c5), (64, .int .i64 n5), (65, .int .i64 k)] ∧ Wd Γ (.own (.slice q3 m3 d3) 3 1 (intRows (H.Cores.map (fun c => c.ID))) :: .own (.slice q4 m4 d4) 3 1 (intRows ((H.Devs.take k).map (fun c => c.IRQ))) :: .own (.slice q5 m5 d5) 9 1 (strRows (cs.map (fun c => c.Name))) :: .own (.slice q6 m6 d6) 9 1 (strRows (H.Mems.map (fun c => c.Name))) :: .own (.slice q7 m7 d7) 9 1 (strRows ((H.Devs.take k).map (fun c => c.Name))) :: .own (.slice none 0 0) 143 2 (pairRows []) :: .blk b1 (.cells #[.string H.Name, .slice a1 n1 c1, .slice a2 n2 c2, .slice a3 n3 c3, .slice a4 n4 c4, .slice a5 n5 c5] 35) :: S) w) n5 ⟨0, none, 0, 0, none, 0, 0, by omega, ⟨rfl, rfl, rfl, rfl, rfl, rfl, rfl, rfl, rfl, rfl, trivial⟩, hw⟩ ?_
  clear hw
  rintro μ ρ w ⟨k, q7, m7, d7, q4, m4, d4, hk, hρ, hw⟩
  have hm7 := own_len (i := 4) hw rfl
  simp only [intRows, strRows, pairRows, List.length_map, List.length_take] at hm7
  have hm4 := own_len (i := 1) hw rfl
  simp only [intRows, strRows, pairRows, List.length_map, List.length_take] at hm4
  rw [hρ.eq]
  repeat (first | refine byW ?_ | (refine byV ?_; intro w hw))
  refine W_cond rfl (fun h => ?_) (fun h => ?_)
  · have hkn : k < n5 := by simpa using h
    obtain ⟨x, hx⟩ := get_lt (l := H.Devs) (k := k) (by omega)
    repeat (first | refine byW ?_ | (refine byV ?_; intro w hw))
    refine lAlloc ?_
    intro b9 w hw
    refine lStore ?_
    intro w hw
    have hw : Wd Γ (.blk b9 (.cells (enc x).toArray 84) :: .own (.slice q3 m3 d3) 3 1 (intRows (H.Cores.map (fun c => c.ID))) :: .own (.slice q4 m4 d4) 3 1 (intRows ((H.Devs.take k).map (fun c => c.IRQ))) :: .own (.slice q5 m5 d5) 9 1 (strRows (cs.map (fun c => c.Name))) :: .own (.slice q6 m6 d6) 9 1 (strRows (H.Mems.map (fun c => c.Name))) :: .own (.slice q7 m7 d7) 9 1 (strRows ((H.Devs.take k).map (fun c => c.Name))) :: .own (.slice none 0 0) 143 2 (pairRows []) :: .blk b1 (.cells #[.string H.Name, .slice a1 n1 c1, .slice a2 n2 c2, .slice a3 n3 c3, .slice a4 n4 c4, .slice a5 n5 c5] 35) :: S) w := hw
    repeat (first | refine byW ?_ | (refine byV ?_; intro w hw))
    refine lBuildSlice [[.string x.Name]] ?_
    intro ab w hw
    refine lApp (i := 6) (rows2 := [[.string x.Name]]) ?_ (Wd.own_rd (i := 0) hw rfl)
    intro v' w hw
    obtain ⟨q7', m7', d7', rfl, -, -, -⟩ := hw.own_shape (i := 6) rfl
    have hw := hw.drop
    have hw : Wd Γ (.blk b9 (.cells (enc x).toArray 84) :: .own (.slice q3 m3 d3) 3 1 (intRows (H.Cores.map (fun c => c.ID))) :: .own (.slice q4 m4 d4) 3 1 (intRows ((H.Devs.take k).map (fun c => c.IRQ))) :: .own (.slice q5 m5 d5) 9 1 (strRows (cs.map (fun c => c.Name))) :: .own (.slice q6 m6 d6) 9 1 (strRows (H.Mems.map (fun c => c.Name))) :: .own (.slice q7' m7' d7') 9 1 (strRows ((H.Devs.take (k + 1)).map (fun c => c.Name))) :: .own (.slice none 0 0) 143 2 (pairRows []) :: .blk b1 (.cells #[.string H.Name, .slice a1 n1 c1, .slice a2 n2 c2, .slice a3 n3 c3, .slice a4 n4 c4, .slice a5 n5 c5] 35) :: S) w := by
      rw [← rows_snocS hx]; exact hw
    repeat (first | refine byW ?_ | (refine byV ?_; intro w hw))
    refine lBuildSlice [[.int .i64 x.IRQ]] ?_
    intro ab w hw
    refine lApp (i := 3) (rows2 := [[.int .i64 x.IRQ]]) ?_ (Wd.own_rd (i := 0) hw rfl)
    intro v' w hw
    obtain ⟨q4', m4', d4', rfl, -, -, -⟩ := hw.own_shape (i := 3) rfl
    have hw := hw.drop
    have hw : Wd Γ (.blk b9 (.cells (enc x).toArray 84) :: .own (.slice q3 m3 d3) 3 1 (intRows (H.Cores.map (fun c => c.ID))) :: .own (.slice q4' m4' d4') 3 1 (intRows ((H.Devs.take (k + 1)).map (fun c => c.IRQ))) :: .own (.slice q5 m5 d5) 9 1 (strRows (cs.map (fun c => c.Name))) :: .own (.slice q6 m6 d6) 9 1 (strRows (H.Mems.map (fun c => c.Name))) :: .own (.slice q7' m7' d7') 9 1 (strRows ((H.Devs.take (k + 1)).map (fun c => c.Name))) :: .own (.slice none 0 0) 143 2 (pairRows []) :: .blk b1 (.cells #[.string H.Name, .slice a1 n1 c1, .slice a2 n2 c2, .slice a3 n3 c3, .slice a4 n4 c4, .slice a5 n5 c5] 35) :: S) w := by
      rw [← rows_snocI hx]; exact hw
    repeat (first | refine byW ?_ | (refine byV ?_; intro w hw))
    exact ⟨μ - 1, by omega, k + 1, _, _, _, _, _, _, by omega, ⟨rfl, rfl, rfl, rfl, rfl, rfl, rfl, rfl, rfl, rfl, trivial⟩, hw.drop⟩
  have hkn : ¬ k < n5 := by simpa using h
  rw [List.take_of_length_le (l := H.Devs) (by omega)] at hw
  clear h hkn hρ hk hm7 hm4
  repeat (first | refine byW ?_ | (refine byV ?_; intro w hw))
  refine W_loop (fun μ ρ w => ∃ (k : Nat) (q8 : Option Addr) (m8 d8 : Nat), μ + k = n3 ∧ Has ρ [(1, .pointer (some ⟨b1, 0, none⟩)), (3, .slice q3 m3 d3), (4, .slice q4 m4 d4), (5, .slice q5 m5 d5), (6, .slice q6 m6 d6), (7, .slice q7 m7 d7), (8, .slice q8 m8 d8), (81, .slice a3 n3 c3), (82, .int .i64 n3), (83, .int .i64 k)] ∧ Wd Γ (.own (.slice q3 m3 d3) 3 1 (intRows (H.Cores.map (fun c => c.ID))) :: .own (.slice q4 m4 d4) 3 1 (intRows (H.Devs.map (fun c => c.IRQ))) :: .own (.slice q5 m5 d5) 9 1 (strRows (cs.map (fun c => c.Name))) :: .own (.slice q6 m6 d6) 9 1 (strRows (H.Mems.map (fun c => c.Name))) :: .own (.slice q7 m7 d7) 9 1 (strRows (H.Devs.map (fun c => c.Name))) :: .own (.slice q8 m8 d8) 143 2 (pairRows ((H.Links.take k).map linkKey)) :: .blk b1 (.cells #[.string H.Name, .slice a1 n1 c1, .slice a2 n2 c2, .slice a3 n3 c3, .slice a4 n4 c4, .slice a5 n5 c5] 35) :: S) w) n3 ⟨0, none, 0, 0, by omega, ⟨rfl, rfl, rfl, rfl, rfl, rfl, rfl, rfl, rfl, rfl, trivial⟩, hw⟩ ?_
  clear hw
  rintro μ ρ w ⟨k, q8, m8, d8, hk, hρ, hw⟩
  have hm8 := own_len (i := 5) hw rfl
  simp only [intRows, strRows, pairRows, List.length_map, List.length_take] at hm8
  rw [hρ.eq]
  repeat (first | refine byW ?_ | (refine byV ?_; intro w hw))
  refine W_cond rfl (fun h => ?_) (fun h => ?_)
  · have hkn : k < n3 := by simpa using h
    obtain ⟨x, hx⟩ := get_lt (l := H.Links) (k := k) (by omega)
    repeat (first | refine byW ?_ | (refine byV ?_; intro w hw))
    refine lAlloc ?_
    intro b9 w hw
    refine lStore ?_
    intro w hw
    have hw : Wd Γ (.blk b9 (.cells (enc x).toArray 82) :: .own (.slice q3 m3 d3) 3 1 (intRows (H.Cores.map (fun c => c.ID))) :: .own (.slice q4 m4 d4) 3 1 (intRows (H.Devs.map (fun c => c.IRQ))) :: .own (.slice q5 m5 d5) 9 1 (strRows (cs.map (fun c => c.Name))) :: .own (.slice q6 m6 d6) 9 1 (strRows (H.Mems.map (fun c => c.Name))) :: .own (.slice q7 m7 d7) 9 1 (strRows (H.Devs.map (fun c => c.Name))) :: .own (.slice q8 m8 d8) 143 2 (pairRows ((H.Links.take k).map linkKey)) :: .blk b1 (.cells #[.string H.Name, .slice a1 n1 c1, .slice a2 n2 c2, .slice a3 n3 c3, .slice a4 n4 c4, .slice a5 n5 c5] 35) :: S) w := hw
    repeat (first | refine byW ?_ | (refine byV ?_; intro w hw))
    refine lBuildSlice [[.int .i64 (linkKey x).1, .int .i64 (linkKey x).2]] ?_
    intro ab w hw
    refine lApp (i := 7) (rows2 := [[.int .i64 (linkKey x).1, .int .i64 (linkKey x).2]]) ?_ (Wd.own_rd (i := 0) hw rfl)
    intro v' w hw
    obtain ⟨q8', m8', d8', rfl, -, -, -⟩ := hw.own_shape (i := 7) rfl
    have hw := hw.drop
    have hw : Wd Γ (.blk b9 (.cells (enc x).toArray 82) :: .own (.slice q3 m3 d3) 3 1 (intRows (H.Cores.map (fun c => c.ID))) :: .own (.slice q4 m4 d4) 3 1 (intRows (H.Devs.map (fun c => c.IRQ))) :: .own (.slice q5 m5 d5) 9 1 (strRows (cs.map (fun c => c.Name))) :: .own (.slice q6 m6 d6) 9 1 (strRows (H.Mems.map (fun c => c.Name))) :: .own (.slice q7 m7 d7) 9 1 (strRows (H.Devs.map (fun c => c.Name))) :: .own (.slice q8' m8' d8') 143 2 (pairRows ((H.Links.take (k + 1)).map linkKey)) :: .blk b1 (.cells #[.string H.Name, .slice a1 n1 c1, .slice a2 n2 c2, .slice a3 n3 c3, .slice a4 n4 c4, .slice a5 n5 c5] 35) :: S) w := by
      rw [← rows_snocP hx]; exact hw
    repeat (first | refine byW ?_ | (refine byV ?_; intro w hw))
    exact ⟨μ - 1, by omega, k + 1, _, _, _, by omega, ⟨rfl, rfl, rfl, rfl, rfl, rfl, rfl, rfl, rfl, rfl, trivial⟩, hw.drop⟩
  have hkn : ¬ k < n3 := by simpa using h
  rw [List.take_of_length_le (l := H.Links) (by omega)] at hw
  clear h hkn hρ hk hm8
  repeat (first | refine byW ?_ | (refine byV ?_; intro w hw))
  refine lCall ?_
  refine (distinct_int_any (RdS.own (i := 0) hw rfl) hw).mono ?_
  rintro r w ⟨rfl, hw⟩
  refine ⟨_, rfl, ?_⟩
  repeat (first | refine byW ?_ | (refine byV ?_; intro w hw))
  refine lCallGd (fun _ => distinct_string_any (RdS.own (i := 2) hw rfl) hw) ?_
  clear hw
  intro w hw
  repeat (first | refine byW ?_ | (refine byV ?_; intro w hw))
  refine lCallGd (fun _ => distinct_string_any (RdS.own (i := 3) hw rfl) hw) ?_
  clear hw
  intro w hw
  repeat (first | refine byW ?_ | (refine byV ?_; intro w hw))
  refine lCallGd (fun _ => distinct_string_any (RdS.own (i := 4) hw rfl) hw) ?_
  clear hw
  intro w hw
  repeat (first | refine byW ?_ | (refine byV ?_; intro w hw))
  refine lCallGd (fun _ => distinct_int_any (RdS.own (i := 1) hw rfl) hw) ?_
  clear hw
  intro w hw
  repeat (first | refine byW ?_ | (refine byV ?_; intro w hw))
  refine lCallGd (fun _ => distinct_pairint_any (RdS.own (i := 5) hw rfl) hw) ?_
  clear hw
  intro w hw
  repeat (first | refine byW ?_ | (refine byV ?_; intro w hw))
  refine ⟨_, rfl, ret_b rfl ?_, hw.ds [0, 0, 0, 0, 0, 0, 0]⟩
  have e1 : (cs.map fun c => c.Name) = H.Caches.map fun c => c.Name := by rw [← hcs, List.map_map]; rfl
  unfold uniqueB
  rw [show (H.Caches.all fun c => decide c.Cores.Nodup) = true from by rw [← hcs, all_cuniq]; exact hA, ← e1]
  rfl
end Go.Proofs.YtimbobmmijgkiaaGreatDoor
end
/- Validate's checks: the caches' cores exist and the caches are nested. -/
section
open Go Mk
namespace Go.Proofs.YtimbobmmijgkiaaGreatDoor
set_option maxHeartbeats 8000000
attribute [local irreducible] Calls

section
variable {Γ : Gho} {S : List Res} {w : World} {a : Option Addr} {n c : Nat} {xs : List CoreT}
theorem IndexFunc_any (p : CoreT → Bool) (f : Nat) (fst cap : List Value) [FnOk Tryz.prog f] (hr : RdS Γ S (.slice a n c) 4 (xs.map enc))
    (hf : ∀ x w, Wd Γ S w → Calls Tryz.prog f (fst ++ [Value.agg (enc x).toArray] ++ cap).toArray w fun e w' => e = .returned (.bool (p x)) ∧ Wd Γ S w') (hw : Wd Γ S w) :
    Calls Tryz.prog 165 #[.slice a n c, .func (.func f) fst.toArray cap.toArray] w fun e w' => ∃ i : Int, e = .returned (.int .i64 i) ∧ decide (0 ≤ i) = xs.any p ∧ Wd Γ S w' := by
  obtain ⟨_, _, _, he, hn, hnc, hc⟩ := hr.shape
  cases he
  have hnr := hn
  simp only [List.length_map] at hn
  refine calls_of_W Tryz.func165 rfl rfl ?_
  repeat (first | refine byW ?_ | (refine byV ?_; intro w hw))
  refine W_loop (fun μ ρ w => ∃ (k : Nat), μ + k = n ∧ Has ρ [(0, .slice a n c), (1, .func (.func f) fst.toArray cap.toArray), (7, .int .i64 n), (8, .int .i64 k)] ∧ (∀ i x, i < k → xs[i]? = some x → (!p x) = true) ∧ Wd Γ S w) n ⟨0, by omega, ⟨rfl, rfl, rfl, rfl, trivial⟩, fun i x h => by omega, hw⟩ ?_
  clear hw
  rintro μ ρ w ⟨k, hk, hρ, hall, hw⟩
  rw [hρ.eq]
  repeat (first | refine byW ?_ | (refine byV ?_; intro w hw))
  refine W_cond rfl (fun h => ?_) (fun h => ?_)
  · have hkn : k < n := by simpa using h
    obtain ⟨x, hx⟩ := get_lt (l := xs) (k := k) (by omega)
    repeat (first | refine byW ?_ | (refine byV ?_; intro w hw))
    refine lCallv (fst := fst) (cap := cap) (vs := [.agg (enc x).toArray]) ?_
    refine (hf x w hw).mono ?_
    rintro r w ⟨rfl, hw⟩
    refine ⟨_, rfl, ?_⟩
    repeat (first | refine byW ?_ | (refine byV ?_; intro w hw))
    refine W_cond rfl (fun h2 => ?_) (fun h2 => ?_)
    · repeat (first | refine byW ?_ | (refine byV ?_; intro w hw))
      exact ⟨_, rfl, k, rfl, by rw [decide_eq_true (show (0 : Int) ≤ k by omega)]; exact (List.any_eq_true.2 ⟨x, List.mem_of_getElem? hx, h2⟩).symm, hw⟩
    · repeat (first | refine byW ?_ | (refine byV ?_; intro w hw))
      exact ⟨μ - 1, by omega, k + 1, by omega, ⟨rfl, rfl, rfl, rfl, trivial⟩, all_step hall hx (by rw [h2]; rfl), hw⟩
  · have hkn : ¬ k < n := by simpa using h
    repeat (first | refine byW ?_ | (refine byV ?_; intro w hw))
    refine ⟨_, rfl, -1, rfl, ?_, hw⟩
    have := all_end hall (by omega)
    rw [decide_eq_false (show ¬ (0 : Int) ≤ -1 by decide)]
    rw [List.all_eq_true] at this
    exact (List.any_eq_false.2 fun x hx => by simpa using this x hx).symm
theorem ContainsFunc_any (p : CoreT → Bool) (f : Nat) (fst cap : List Value) [FnOk Tryz.prog f] (hr : RdS Γ S (.slice a n c) 4 (xs.map enc))
    (hf : ∀ x w, Wd Γ S w → Calls Tryz.prog f (fst ++ [Value.agg (enc x).toArray] ++ cap).toArray w fun e w' => e = .returned (.bool (p x)) ∧ Wd Γ S w') (hw : Wd Γ S w) :
    Calls Tryz.prog 124 #[.slice a n c, .func (.func f) fst.toArray cap.toArray] w fun e w' => e = .returned (.bool (xs.any p)) ∧ Wd Γ S w' := by
  refine calls_of_W Tryz.func124 rfl rfl ?_
  repeat (first | refine byW ?_ | (refine byV ?_; intro w hw))
  refine lCall ?_
  refine (IndexFunc_any p f fst cap hr hf hw).mono ?_
  rintro r w ⟨i, rfl, hi, hw⟩
  refine ⟨_, rfl, ?_⟩
  repeat (first | refine byW ?_ | (refine byV ?_; intro w hw))
  exact ⟨_, rfl, ret_b rfl hi, hw⟩
theorem known1_any {b6 i : Nat} {id : Int} (x : CoreT) (hi : S[i]? = some (.blk b6 (.cells #[.int .i64 id] 3))) (hw : Wd Γ S w) :
    Calls Tryz.prog 125 #[.agg (enc x).toArray, .pointer (some ⟨b6, 0, none⟩)] w fun e w' => e = .returned (.bool (decide (x.ID = id))) ∧ Wd Γ S w' := by
  refine calls_of_W Tryz.func125 rfl rfl ?_
  repeat (first | refine byW ?_ | (refine byV ?_; intro w hw))
  refine lBox ?_
  intro b2 w hw
  have hw : Wd Γ (.blk b2 (.cells (enc x).toArray 77) :: S) w := hw
  repeat (first | refine byW ?_ | (refine byV ?_; intro w hw))
  have hi2 : (Res.blk b2 (.cells (enc x).toArray 77) :: S)[i + 1]? = some (.blk b6 (.cells #[.int .i64 id] 3)) := by simpa using hi
  refine lY (v := .int .i64 id) ?_ (hy := y_l1b (i := i + 1) hw rfl hi2 rfl)
  repeat (first | refine byW ?_ | (refine byV ?_; intro w hw))
  exact ⟨_, rfl, rfl, hw.drop⟩
end
def knownB (H : HwT) : Bool := H.Caches.all fun c => c.Cores.all fun id => H.Cores.any fun x => decide (x.ID = id)
def knownH (H : HwT) (c : CacheH) : Bool := c.Cores.all fun id => H.Cores.any fun x => decide (x.ID = id)
theorem all_known (H : HwT) (cs : List CacheH) : ((cs.map CacheH.T).all fun c => c.Cores.all fun id => H.Cores.any fun x => decide (x.ID = id)) = cs.all (knownH H) := by rw [List.all_map]; rfl
abbrev hwC (H : HwT) (a1 : Option Addr) (n1 c1 : Nat) (a2 : Option Addr) (n2 c2 : Nat) (a3 : Option Addr) (n3 c3 : Nat) (a4 : Option Addr) (n4 c4 : Nat) (a5 : Option Addr) (n5 c5 : Nat) : Obj := .cells #[.string H.Name, .slice a1 n1 c1, .slice a2 n2 c2, .slice a3 n3 c3, .slice a4 n4 c4, .slice a5 n5 c5] 35
instance pg_knownOK {Γ : Gho} {u : Value} {H : HwT} [hh : HwR Γ u H] : PG Tryz.prog Γ 54 [u] (.bool (knownB H)) := ⟨fun S w hw => by
  obtain ⟨a1, n1, c1, a2, n2, c2, a3, n3, c3, a4, n4, c4, a5, n5, c5, cs, rfl, hcs, hok, hsz, r1, r2, r3, r4, r5⟩ := hh.h
  obtain ⟨hn1, hm1, hx1⟩ := rep_facts r1
  obtain ⟨hn2, hm2, hx2⟩ := rep_facts r2
  simp only [List.length_map] at hn1 hn2
  refine calls_of_W Tryz.func54 rfl rfl ?_
  repeat (first | refine byW ?_ | (refine byV ?_; intro w hw))
  refine lBox ?_
  intro b1 w hw
  have hw : Wd Γ (.blk b1 (hwC H a1 n1 c1 a2 n2 c2 a3 n3 c3 a4 n4 c4 a5 n5 c5) :: S) w := hw
  repeat (first | refine byW ?_ | (refine byV ?_; intro w hw))
  refine W_loop (fun μ ρ w => ∃ (k : Nat), μ + k = n2 ∧ Has ρ [(1, .pointer (some ⟨b1, 0, none⟩)), (8, .slice a2 n2 c2), (9, .int .i64 n2), (10, .int .i64 k)] ∧ (∀ i x, i < k → cs[i]? = some x → knownH H x = true) ∧ Wd Γ (.blk b1 (hwC H a1 n1 c1 a2 n2 c2 a3 n3 c3 a4 n4 c4 a5 n5 c5) :: S) w) n2 ⟨0, by omega, ⟨rfl, rfl, rfl, rfl, trivial⟩, fun i x h => by omega, hw⟩ ?_
  clear hw
  rintro μ ρ w ⟨k, hk, hρ, hall, hw⟩
  rw [hρ.eq]
  repeat (first | refine byW ?_ | (refine byV ?_; intro w hw))
  refine W_cond rfl (fun h => ?_) (fun h => ?_)
  · have hkn : k < n2 := by simpa using h
    obtain ⟨x, hx⟩ := get_lt (l := cs) (k := k) (by omega)
    have hcok := hok x (List.mem_of_getElem? hx)
    obtain ⟨hxn, hxm, hxc⟩ := hcok.facts
    unfold COk at hcok
    repeat (first | refine byW ?_ | (refine byV ?_; intro w hw))
    refine lAlloc ?_
    intro b9 w hw
    refine lStore ?_
    intro w hw
    have hw : Wd Γ (.blk b9 (.cells (cC x).toArray 79) :: .blk b1 (hwC H a1 n1 c1 a2 n2 c2 a3 n3 c3 a4 n4 c4 a5 n5 c5) :: S) w := hw
    repeat (first | refine byW ?_ | (refine byV ?_; intro w hw))
    refine W_loop (fun μ2 ρ w => ∃ (j : Nat), μ2 + j = x.N ∧ Has ρ [(1, .pointer (some ⟨b1, 0, none⟩)), (8, .slice a2 n2 c2), (9, .int .i64 n2), (10, .int .i64 k), (15, .slice x.A x.N x.C), (16, .int .i64 x.N), (17, .int .i64 j)] ∧ (∀ i id, i < j → x.Cores[i]? = some id → (H.Cores.any fun y => decide (y.ID = id)) = true) ∧ Wd Γ (.blk b9 (.cells (cC x).toArray 79) :: .blk b1 (hwC H a1 n1 c1 a2 n2 c2 a3 n3 c3 a4 n4 c4 a5 n5 c5) :: S) w) x.N ⟨0, by omega, ⟨rfl, rfl, rfl, rfl, rfl, rfl, rfl, trivial⟩, fun i x h => by omega, hw⟩ ?_
    clear hw
    rintro μ2 ρ w ⟨j, hj, hρ, hall2, hw⟩
    rw [hρ.eq]
    repeat (first | refine byW ?_ | (refine byV ?_; intro w hw))
    refine W_cond rfl (fun h2 => ?_) (fun h2 => ?_)
    · have hjn : j < x.N := by simpa using h2
      obtain ⟨id, hid⟩ := get_lt (l := x.Cores) (k := j) (by omega)
      repeat (first | refine byW ?_ | (refine byV ?_; intro w hw))
      refine lAlloc ?_
      intro b6 w hw
      refine lStore ?_
      intro w hw
      have hw : Wd Γ (.blk b6 (.cells #[.int .i64 id] 3) :: .blk b9 (.cells (cC x).toArray 79) :: .blk b1 (hwC H a1 n1 c1 a2 n2 c2 a3 n3 c3 a4 n4 c4 a5 n5 c5) :: S) w := hw
      repeat (first | refine byW ?_ | (refine byV ?_; intro w hw))
      refine lCall ?_
      refine (ContainsFunc_any (fun y => decide (y.ID = id)) 125 [] [.pointer (some ⟨b6, 0, none⟩)] r1.rdS (fun y w hw => known1_any y (i := 0) rfl hw) hw).mono ?_
      rintro r w ⟨rfl, hw⟩
      refine ⟨_, rfl, ?_⟩
      repeat (first | refine byW ?_ | (refine byV ?_; intro w hw))
      refine W_cond rfl (fun h3 => ?_) (fun h3 => ?_)
      · have hf : (H.Cores.any fun y => decide (y.ID = id)) = false := by simpa using h3
        repeat (first | refine byW ?_ | (refine byV ?_; intro w hw))
        refine ⟨_, rfl, ret_b rfl ?_, hw.drop.drop.drop⟩
        have hf2 : knownH H x = false := all_no hid hf
        unfold knownB
        rw [← hcs, all_known]
        exact (all_no hx hf2).symm
      · have ht : (H.Cores.any fun y => decide (y.ID = id)) = true := by simpa using h3
        repeat (first | refine byW ?_ | (refine byV ?_; intro w hw))
        exact ⟨μ2 - 1, by omega, j + 1, by omega, ⟨rfl, rfl, rfl, rfl, rfl, rfl, rfl, trivial⟩, all_step hall2 hid ht, hw.drop⟩
    · have hjn : ¬ j < x.N := by simpa using h2
      have ht : knownH H x = true := all_end hall2 (by omega)
      repeat (first | refine byW ?_ | (refine byV ?_; intro w hw))
      exact ⟨μ - 1, by omega, k + 1, by omega, ⟨rfl, rfl, rfl, rfl, trivial⟩, all_step hall hx ht, hw.drop⟩
  · have hkn : ¬ k < n2 := by simpa using h
    repeat (first | refine byW ?_ | (refine byV ?_; intro w hw))
    refine ⟨_, rfl, ret_b rfl ?_, hw.drop⟩
    unfold knownB
    rw [← hcs, all_known]
    exact (all_end hall (by omega)).symm⟩

/-! ### sorted lists, members -/
def sortedP (l : List Int) : Prop := ∀ i a b, l[i]? = some a → l[i + 1]? = some b → a ≤ b
noncomputable def decP (p : Prop) : Bool := @decide p (Classical.propDecidable p)
theorem decP_t {p : Prop} (h : p) : decP p = true := @decide_eq_true p (Classical.propDecidable p) h
theorem decP_f {p : Prop} (h : ¬ p) : decP p = false := @decide_eq_false p (Classical.propDecidable p) h
theorem decP_iff {p : Prop} : decP p = true ↔ p := @decide_eq_true_iff p (Classical.propDecidable p)
noncomputable def sortedB (l : List Int) : Bool := decP (sortedP l)
instance pc_isNaN (x : Int) : PC Tryz.prog 138 [.int .i64 x] (.bool false) := ⟨fun w => by
  refine calls_of_W Tryz.func138 rfl rfl ?_
  repeat (first | refine byW ?_ | (refine byV ?_; intro w hw))
  exact ⟨_, rfl, ret_b rfl (by simp), rfl⟩⟩
instance pc_Less (x y : Int) : PC Tryz.prog 166 [.int .i64 x, .int .i64 y] (.bool (decide (x < y))) := ⟨fun w => by
  refine calls_of_W Tryz.func166 rfl rfl ?_
  repeat (first | (first | refine W_seq ?_ | refine W_block ?_ | refine W_region ?_ | refine W_skip ?_ | refine W_ret ?_ | refine W_exit ?_) | ((first | apply L_bin | apply L_notop); first | (refine lT ?_ ?_; (first | exact rfl | exact decide_eq_true rfl | (simp; done))) | (refine lF ?_ ?_; (first | exact rfl | exact decide_eq_true rfl | (simp; done)))) | (first | refine L_nil ?_ | (apply L_plain; first | (apply L_go; first | refine lP ?_ | (refine lPg ?_; intro w hw)) | (apply L_mf; refine lMakeFunc ?_) | refine lY ?_) | (apply L_guarded; first | refine lGT ?_ (hct := rfl) | refine lGF ?_ (hct := rfl) | (apply L_go; first | refine lPG ?_ | (refine lPgG ?_; intro w hw)) | refine lG ?_)) | (refine lAlloc ?_; intro _ w hw) | (refine lBox ?_; intro _ w hw) | (refine lStore ?_; intro w hw))
  exact ⟨_, rfl, ret_b rfl (by simp), rfl⟩⟩
section
variable {Γ : Gho} {S : List Res} {w : World} {xs : List Int} {v : Value}
theorem IsSorted_any (hr : RdS Γ S v 1 (intRows xs)) (hw : Wd Γ S w) : Calls Tryz.prog 126 #[v] w fun e w' => e = .returned (.bool (sortedB xs)) ∧ Wd Γ S w' := by
  obtain ⟨a, n, c, rfl, hn, hnc, hc⟩ := hr.shape
  have hnr := hn
  simp only [intRows, List.length_map] at hn
  refine calls_of_W Tryz.func126 rfl rfl ?_
  repeat (first | refine byW ?_ | (refine byV ?_; intro w hw))
  refine W_loop (fun μ ρ w => ∃ (m : Nat), μ = m ∧ m ≤ n ∧ Has ρ [(0, .slice a n c), (3, .int .i64 ((m : Int) - 1))] ∧ (∀ i a b, m ≤ i + 1 → xs[i]? = some a → xs[i + 1]? = some b → a ≤ b) ∧ Wd Γ S w) n ⟨n, rfl, Nat.le_refl _, ⟨rfl, rfl, trivial⟩, fun i a b h1 h2 h3 => by have := (List.getElem?_eq_some_iff.1 h3).1; omega, hw⟩ ?_
  clear hw
  rintro μ ρ w ⟨m, rfl, hm, hρ, hall, hw⟩
  rw [hρ.eq]
  repeat (first | refine byW ?_ | (refine byV ?_; intro w hw))
  refine W_cond rfl (fun h => ?_) (fun h => ?_)
  · have hm2 : 2 ≤ μ := by have := of_decide_eq_true h; omega
    obtain ⟨x, hx⟩ := get_lt (l := xs) (k := μ - 1) (by omega)
    obtain ⟨y, hy⟩ := get_lt (l := xs) (k := μ - 2) (by omega)
    have e1 : ((μ : Int) - 1).toNat = μ - 1 := by omega
    have e2 : ((μ : Int) - 1 - 1).toNat = μ - 2 := by omega
    have hx' : xs[((μ : Int) - 1).toNat]? = some x := by rw [e1]; exact hx
    have hy' : xs[((μ : Int) - 1 - 1).toNat]? = some y := by rw [e2]; exact hy
    repeat (first | refine byW ?_ | (refine byV ?_; intro w hw))
    refine W_quiet (by kernel_rfl) (by kernel_rfl) hw ?_
    repeat (first | refine Q_nil ?_ | (apply Q_plain; first | (apply Q_go; first | refine qP ?_ | refine qPg ?_) | refine qY ?_) | (apply Q_guarded; first | (apply Q_go; first | refine qPG ?_ | refine qPgG ?_) | refine qG ?_))
    intro w hw
    refine W_cond rfl (fun h2 => ?_) (fun h2 => ?_)
    · have h2 : x < y := of_decide_eq_true h2
      repeat (first | refine byW ?_ | (refine byV ?_; intro w hw))
      refine ⟨_, rfl, ret_b rfl ?_, hw⟩
      exact (decP_f fun hs => by have := hs (μ - 2) y x hy (by rw [show μ - 2 + 1 = μ - 1 by omega]; exact hx); omega).symm
    · have h2 : ¬ x < y := of_decide_eq_false h2
      repeat (first | refine byW ?_ | (refine byV ?_; intro w hw))
      refine ⟨μ - 1, by omega, μ - 1, rfl, by omega, ⟨rfl, ?_, trivial⟩, fun i p q h3 h4 h5 => ?_, hw⟩
      · show Value.int .i64 ((μ : Int) - 1 - 1) = _
        congr 1; omega
      · by_cases e : μ ≤ i + 1
        · exact hall i p q e h4 h5
        · have : i = μ - 2 := by omega
          subst this
          rw [show μ - 2 + 1 = μ - 1 by omega, hx] at h5
          rw [hy] at h4
          cases h4; cases h5; omega
  · have hm2 : ¬ 2 ≤ μ := by have := of_decide_eq_false h; omega
    repeat (first | refine byW ?_ | (refine byV ?_; intro w hw))
    refine ⟨_, rfl, ret_b rfl ?_, hw⟩
    exact (decP_t fun i p q h1 h2 => hall i p q (by omega) h1 h2).symm
def memI (x : Int) (xs : List Int) : Bool := xs.any fun y => decide (x = y)
theorem ContainsI_any (hr : RdS Γ S v 1 (intRows xs)) (x : Int) (hw : Wd Γ S w) : Calls Tryz.prog 127 #[v, .int .i64 x] w fun e w' => e = .returned (.bool (memI x xs)) ∧ Wd Γ S w' := by
  have hI : ∀ w, Wd Γ S w → Calls Tryz.prog 167 #[v, .int .i64 x] w fun e w' => ∃ i : Int, e = .returned (.int .i64 i) ∧ (decide (0 ≤ i) = memI x xs) ∧ Wd Γ S w' := by
    intro w hw
    obtain ⟨a, n, c, rfl, hn, hnc, hc⟩ := hr.shape
    have hnr := hn
    simp only [intRows, List.length_map] at hn
    refine calls_of_W Tryz.func167 rfl rfl ?_
    repeat (first | refine byW ?_ | (refine byV ?_; intro w hw))
    refine W_loop (fun μ ρ w => ∃ (k : Nat), μ + k = n ∧ Has ρ [(0, .slice a n c), (1, .int .i64 x), (7, .int .i64 n), (8, .int .i64 k)] ∧ (∀ i y, i < k → xs[i]? = some y → (!decide (x = y)) = true) ∧ Wd Γ S w) n ⟨0, by omega, ⟨rfl, rfl, rfl, rfl, trivial⟩, fun i x h => by omega, hw⟩ ?_
    clear hw
    rintro μ ρ w ⟨k, hk, hρ, hno, hw⟩
    rw [hρ.eq]
    repeat (first | refine byW ?_ | (refine byV ?_; intro w hw))
    refine W_cond rfl (fun h => ?_) (fun h => ?_)
    · have hkn : k < n := by simpa using h
      obtain ⟨y, hy⟩ := get_lt (l := xs) (k := k) (by omega)
      repeat (first | refine byW ?_ | (refine byV ?_; intro w hw))
      refine W_cond rfl (fun h2 => ?_) (fun h2 => ?_)
      · repeat (first | refine byW ?_ | (refine byV ?_; intro w hw))
        exact ⟨_, rfl, k, rfl, by rw [decide_eq_true (show (0 : Int) ≤ k by omega)]; exact (List.any_eq_true.2 ⟨y, List.mem_of_getElem? hy, h2⟩).symm, hw⟩
      · repeat (first | refine byW ?_ | (refine byV ?_; intro w hw))
        exact ⟨μ - 1, by omega, k + 1, by omega, ⟨rfl, rfl, rfl, rfl, trivial⟩, all_step hno hy (by rw [h2]; rfl), hw⟩
    · have hkn : ¬ k < n := by simpa using h
      repeat (first | refine byW ?_ | (refine byV ?_; intro w hw))
      refine ⟨_, rfl, -1, rfl, ?_, hw⟩
      have := all_end hno (by omega)
      rw [decide_eq_false (show ¬ (0 : Int) ≤ -1 by decide)]
      rw [List.all_eq_true] at this
      exact (List.any_eq_false.2 fun y hy => by simpa using this y hy).symm
  refine calls_of_W Tryz.func127 rfl rfl ?_
  repeat (first | refine byW ?_ | (refine byV ?_; intro w hw))
  refine lCall ?_
  refine (hI w hw).mono ?_
  rintro e w ⟨i, rfl, hd, hw⟩
  refine ⟨_, rfl, ?_⟩
  repeat (first | refine byW ?_ | (refine byV ?_; intro w hw))
  exact ⟨_, rfl, ret_b rfl hd, hw⟩
end
instance pg_ContainsI {Γ : Gho} {v : Value} {xs : List Int} [hr : SlC Γ v 1 (intRows xs)] (x : Int) : PG Tryz.prog Γ 127 [v, .int .i64 x] (.bool (memI x xs)) := ⟨fun S w hw => ContainsI_any hr.h.rdS x hw⟩
noncomputable instance pg_IsSorted {Γ : Gho} {v : Value} {xs : List Int} [hr : SlC Γ v 1 (intRows xs)] : PG Tryz.prog Γ 126 [v] (.bool (sortedB xs)) := ⟨fun S w hw => IsSorted_any hr.h.rdS hw⟩

/-! ### nested caches -/
def sharedN (a b : List Int) : Nat := (a.filter fun v => memI v b).length
def pairB (i k : Nat) (a b : CacheT) : Bool := decide (i = k) || decide (b.Level < a.Level) || !(decide (0 < sharedN a.Cores b.Cores) && (decide (a.Level = b.Level) || decide (sharedN a.Cores b.Cores < a.Cores.length)))
def HierP (l : List CacheT) : Prop := (∀ c ∈ l, sortedP c.Cores) ∧ ∀ (i k : Nat) (a b : CacheT), l[i]? = some a → l[k]? = some b → pairB i k a b = true
noncomputable def hierB (H : HwT) : Bool := decP (HierP H.Caches)
theorem allI_step {α : Type} {l : List α} {p : Nat → α → Bool} {k : Nat} {x : α} (h : ∀ i x, i < k → l[i]? = some x → p i x = true) (hx : l[k]? = some x) (ht : p k x = true) : ∀ i x, i < k + 1 → l[i]? = some x → p i x = true := fun i y hi hy => by
  by_cases e : i = k
  · subst e; rw [hx] at hy; cases hy; exact ht
  · exact h i y (by omega) hy
instance pg_hierarchyOK {Γ : Gho} {u : Value} {H : HwT} [hh : HwR Γ u H] : PG Tryz.prog Γ 55 [u] (.bool (hierB H)) := ⟨fun S w hw => by
  obtain ⟨a1, n1, c1, a2, n2, c2, a3, n3, c3, a4, n4, c4, a5, n5, c5, cs, rfl, hcs, hok, hsz, r1, r2, r3, r4, r5⟩ := hh.h
  obtain ⟨hn2, hm2, hx2⟩ := rep_facts r2
  simp only [List.length_map] at hn2
  have hget : ∀ (i : Nat) (x : CacheH), cs[i]? = some x → H.Caches[i]? = some x.T := fun i x h => by rw [← hcs]; simp [h]
  refine calls_of_W Tryz.func55 rfl rfl ?_
  repeat (first | refine byW ?_ | (refine byV ?_; intro w hw))
  refine lBox ?_
  intro b1 w hw
  have hw : Wd Γ (.blk b1 (hwC H a1 n1 c1 a2 n2 c2 a3 n3 c3 a4 n4 c4 a5 n5 c5) :: S) w := hw
  repeat (first | refine byW ?_ | (refine byV ?_; intro w hw))
  refine W_loop (fun μ ρ w => ∃ (k : Nat), μ + k = n2 ∧ Has ρ [(1, .pointer (some ⟨b1, 0, none⟩)), (13, .slice a2 n2 c2), (14, .int .i64 n2), (15, .int .i64 k)] ∧ (∀ (i : Nat) (x : CacheH), i < k → cs[i]? = some x → sortedB x.Cores = true) ∧ Wd Γ (.blk b1 (hwC H a1 n1 c1 a2 n2 c2 a3 n3 c3 a4 n4 c4 a5 n5 c5) :: S) w) n2 ⟨0, by omega, ⟨rfl, rfl, rfl, rfl, trivial⟩, fun i x h => by omega, hw⟩ ?_
  clear hw
  rintro μ ρ w ⟨k, hk, hρ, hall, hw⟩
  rw [hρ.eq]
  repeat (first | refine byW ?_ | (refine byV ?_; intro w hw))
  refine W_cond rfl (fun h => ?_) (fun h => ?_)
  · have hkn : k < n2 := by simpa using h
    obtain ⟨x, hx⟩ := get_lt (l := cs) (k := k) (by omega)
    haveI : SlC Γ (.slice x.A x.N x.C) 1 (intRows x.Cores) := ⟨hok x (List.mem_of_getElem? hx)⟩
    repeat (first | refine byW ?_ | (refine byV ?_; intro w hw))
    refine lAlloc ?_
    intro b9 w hw
    refine lStore ?_
    intro w hw
    have hw : Wd Γ (.blk b9 (.cells (cC x).toArray 79) :: .blk b1 (hwC H a1 n1 c1 a2 n2 c2 a3 n3 c3 a4 n4 c4 a5 n5 c5) :: S) w := hw
    repeat (first | refine byW ?_ | (refine byV ?_; intro w hw))
    refine W_cond rfl (fun h2 => ?_) (fun h2 => ?_)
    · have hf : sortedB x.Cores = false := by simpa using h2
      repeat (first | refine byW ?_ | (refine byV ?_; intro w hw))
      refine ⟨_, rfl, ret_b rfl ?_, hw.drop.drop⟩
      refine (decP_f fun hP => ?_).symm
      have := hP.1 x.T (List.mem_of_getElem? (hget k x hx))
      rw [show sortedB x.Cores = true from decP_t this] at hf; cases hf
    · have ht : sortedB x.Cores = true := by simpa using h2
      repeat (first | refine byW ?_ | (refine byV ?_; intro w hw))
      exact ⟨μ - 1, by omega, k + 1, by omega, ⟨rfl, rfl, rfl, rfl, trivial⟩, all_step hall hx ht, hw.drop⟩
  have hkn : ¬ k < n2 := by simpa using h
  have hsort : ∀ (i : Nat) (x : CacheH), cs[i]? = some x → sortedP x.Cores := fun i x hx => decP_iff.1 (hall i x (by have := (List.getElem?_eq_some_iff.1 hx).1; omega) hx)
  clear h hkn hall hρ hk
  repeat (first | refine byW ?_ | (refine byV ?_; intro w hw))
  refine W_loop (fun μ ρ w => ∃ (k : Nat), μ + k = n2 ∧ Has ρ [(1, .pointer (some ⟨b1, 0, none⟩)), (25, .slice a2 n2 c2), (26, .int .i64 n2), (27, .int .i64 k)] ∧ (∀ (i j : Nat) (a b : CacheH), i < k → cs[i]? = some a → cs[j]? = some b → pairB i j a.T b.T = true) ∧ Wd Γ (.blk b1 (hwC H a1 n1 c1 a2 n2 c2 a3 n3 c3 a4 n4 c4 a5 n5 c5) :: S) w) n2 ⟨0, by omega, ⟨rfl, rfl, rfl, rfl, trivial⟩, fun i j a b h => by omega, hw⟩ ?_
  clear hw
  rintro μ ρ w ⟨i, hi, hρ, hall, hw⟩
  rw [hρ.eq]
  repeat (first | refine byW ?_ | (refine byV ?_; intro w hw))
  refine W_cond rfl (fun h => ?_) (fun h => ?_)
  · have hin : i < n2 := by simpa using h
    obtain ⟨x, hx⟩ := get_lt (l := cs) (k := i) (by omega)
    have hcx := hok x (List.mem_of_getElem? hx)
    obtain ⟨hxn, hxm, hxc⟩ := hcx.facts
    unfold COk at hcx
    repeat (first | refine byW ?_ | (refine byV ?_; intro w hw))
    refine lAlloc ?_
    intro b6 w hw
    repeat (first | refine byW ?_ | (refine byV ?_; intro w hw))
    refine lStore ?_
    intro w hw
    have hw : Wd Γ (.blk b6 (.cells (cC x).toArray 79) :: .blk b1 (hwC H a1 n1 c1 a2 n2 c2 a3 n3 c3 a4 n4 c4 a5 n5 c5) :: S) w := hw
    repeat (first | refine byW ?_ | (refine byV ?_; intro w hw))
    refine W_loop (fun μ2 ρ w => ∃ (k : Nat), μ2 + k = n2 ∧ Has ρ [(1, .pointer (some ⟨b1, 0, none⟩)), (5, .int .i64 i), (6, .pointer (some ⟨b6, 0, none⟩)), (25, .slice a2 n2 c2), (26, .int .i64 n2), (27, .int .i64 i), (33, .slice a2 n2 c2), (34, .int .i64 n2), (35, .int .i64 k)] ∧ (∀ (j : Nat) (b : CacheH), j < k → cs[j]? = some b → pairB i j x.T b.T = true) ∧ Wd Γ (.blk b6 (.cells (cC x).toArray 79) :: .blk b1 (hwC H a1 n1 c1 a2 n2 c2 a3 n3 c3 a4 n4 c4 a5 n5 c5) :: S) w) n2 ⟨0, by omega, ⟨rfl, rfl, rfl, rfl, rfl, rfl, rfl, rfl, rfl, trivial⟩, fun j b h => by omega, hw⟩ ?_
    clear hw
    rintro μ2 ρ w ⟨k, hk, hρ, hall2, hw⟩
    rw [hρ.eq]
    repeat (first | refine byW ?_ | (refine byV ?_; intro w hw))
    refine W_cond rfl (fun h2 => ?_) (fun h2 => ?_)
    · have hkn : k < n2 := by simpa using h2
      obtain ⟨y, hy⟩ := get_lt (l := cs) (k := k) (by omega)
      have hcy := hok y (List.mem_of_getElem? hy)
      haveI : SlC Γ (.slice y.A y.N y.C) 1 (intRows y.Cores) := ⟨hcy⟩
      repeat (first | refine byW ?_ | (refine byV ?_; intro w hw))
      refine lAlloc ?_
      intro b8 w hw
      repeat (first | refine byW ?_ | (refine byV ?_; intro w hw))
      refine lStore ?_
      intro w hw
      have hw : Wd Γ (.blk b8 (.cells (cC y).toArray 79) :: .blk b6 (.cells (cC x).toArray 79) :: .blk b1 (hwC H a1 n1 c1 a2 n2 c2 a3 n3 c3 a4 n4 c4 a5 n5 c5) :: S) w := hw
      repeat (first | refine byW ?_ | (refine byV ?_; intro w hw))
      refine W_cond rfl (fun h3 => ?_) (fun h3 => ?_)
      · have hp : pairB i k x.T y.T = true := by
          have h3 : (decide ((i : Int) = k) || decide (y.Level < x.Level)) = true := h3
          unfold pairB CacheH.T
          rw [show decide (i = k) = decide ((i : Int) = k) from decide_eq_decide.2 (by omega)]
          rw [h3]; rfl
        repeat (first | refine byW ?_ | (refine byV ?_; intro w hw))
        exact ⟨μ2 - 1, by omega, k + 1, by omega, ⟨rfl, rfl, rfl, rfl, rfl, rfl, rfl, rfl, rfl, trivial⟩, allI_step (p := fun j b => pairB i j x.T b.T) hall2 hy hp, hw.drop⟩
      · have h3 : (decide ((i : Int) = k) || decide (y.Level < x.Level)) = false := h3
        repeat (first | refine byW ?_ | (refine byV ?_; intro w hw))
        refine W_loop (fun μ3 ρ w => ∃ (j : Nat), μ3 + j = x.N ∧ Has ρ [(1, .pointer (some ⟨b1, 0, none⟩)), (5, .int .i64 i), (6, .pointer (some ⟨b6, 0, none⟩)), (8, .pointer (some ⟨b8, 0, none⟩)), (9, .int .i64 (sharedN (x.Cores.take j) y.Cores)), (25, .slice a2 n2 c2), (26, .int .i64 n2), (27, .int .i64 i), (33, .slice a2 n2 c2), (34, .int .i64 n2), (35, .int .i64 k), (51, .slice x.A x.N x.C), (52, .int .i64 x.N), (53, .int .i64 j)] ∧ Wd Γ (.blk b8 (.cells (cC y).toArray 79) :: .blk b6 (.cells (cC x).toArray 79) :: .blk b1 (hwC H a1 n1 c1 a2 n2 c2 a3 n3 c3 a4 n4 c4 a5 n5 c5) :: S) w) x.N ⟨0, by omega, ⟨rfl, rfl, rfl, rfl, rfl, rfl, rfl, rfl, rfl, rfl, rfl, rfl, rfl, rfl, trivial⟩, hw⟩ ?_
        clear hw
        rintro μ3 ρ w ⟨j, hj, hρ, hw⟩
        rw [hρ.eq]
        have hle : sharedN (x.Cores.take j) y.Cores ≤ j := Nat.le_trans (List.length_filter_le _ _) (by simp; omega)
        repeat (first | refine byW ?_ | (refine byV ?_; intro w hw))
        refine W_cond rfl (fun h4 => ?_) (fun h4 => ?_)
        · have hjn : j < x.N := by simpa using h4
          obtain ⟨v, hv⟩ := get_lt (l := x.Cores) (k := j) (by omega)
          have hst : sharedN (x.Cores.take (j + 1)) y.Cores = sharedN (x.Cores.take j) y.Cores + (if memI v y.Cores = true then 1 else 0) := by
            unfold sharedN; rw [take_succ_of hv, List.filter_append, List.length_append]
            congr 1
            by_cases e : memI v y.Cores = true <;> simp [e]
          repeat (first | refine byW ?_ | (refine byV ?_; intro w hw))
          refine W_cond rfl (fun h5 => ?_) (fun h5 => ?_)
          · rw [if_pos h5] at hst
            repeat (first | refine byW ?_ | (refine byV ?_; intro w hw))
            exact ⟨μ3 - 1, by omega, j + 1, by omega, ⟨rfl, rfl, rfl, rfl, by rw [hst]; rfl, rfl, rfl, rfl, rfl, rfl, rfl, rfl, rfl, rfl, trivial⟩, hw⟩
          · rw [if_neg (by rw [h5]; simp)] at hst
            repeat (first | refine byW ?_ | (refine byV ?_; intro w hw))
            exact ⟨μ3 - 1, by omega, j + 1, by omega, ⟨rfl, rfl, rfl, rfl, by rw [hst]; rfl, rfl, rfl, rfl, rfl, rfl, rfl, rfl, rfl, rfl, trivial⟩, hw⟩
        · have hjn : ¬ j < x.N := by simpa using h4
          rw [List.take_of_length_le (by omega)]
          repeat (first | refine byW ?_ | (refine byV ?_; intro w hw))
          have key : pairB i k x.T y.T = !(decide ((0 : Int) < (sharedN x.Cores y.Cores : Nat)) && (decide (x.Level = y.Level) || decide (((sharedN x.Cores y.Cores : Nat) : Int) < x.N))) := by
            unfold pairB CacheH.T
            rw [show decide (i = k) = decide ((i : Int) = k) from decide_eq_decide.2 (by omega), h3]
            rw [show decide (0 < sharedN x.Cores y.Cores) = decide ((0 : Int) < (sharedN x.Cores y.Cores : Nat)) from decide_eq_decide.2 (by omega)]
            rw [show decide (sharedN x.Cores y.Cores < x.Cores.length) = decide (((sharedN x.Cores y.Cores : Nat) : Int) < x.N) from decide_eq_decide.2 (by omega)]
            rfl
          refine W_cond rfl (fun h6 => ?_) (fun h6 => ?_)
          · have hp : pairB i k x.T y.T = false := key.trans (congrArg (fun b => !b) h6)
            repeat (first | refine byW ?_ | (refine byV ?_; intro w hw))
            refine ⟨_, rfl, ret_b rfl ?_, hw.drop.drop.drop⟩
            refine (decP_f fun hP => ?_).symm
            rw [hP.2 i k x.T y.T (hget i x hx) (hget k y hy)] at hp; cases hp
          · have hp : pairB i k x.T y.T = true := key.trans (congrArg (fun b => !b) h6)
            repeat (first | refine byW ?_ | (refine byV ?_; intro w hw))
            exact ⟨μ2 - 1, by omega, k + 1, by omega, ⟨rfl, rfl, rfl, rfl, rfl, rfl, rfl, rfl, rfl, trivial⟩, allI_step (p := fun j b => pairB i j x.T b.T) hall2 hy hp, hw.drop⟩
    · have hkn : ¬ k < n2 := by simpa using h2
      repeat (first | refine byW ?_ | (refine byV ?_; intro w hw))
      refine ⟨μ - 1, by omega, i + 1, by omega, ⟨rfl, rfl, rfl, rfl, trivial⟩, fun i' j a b h1 ha hb => ?_, hw.drop⟩
      by_cases e : i' = i
      · subst e; rw [hx] at ha; cases ha
        exact hall2 j b (by have := (List.getElem?_eq_some_iff.1 hb).1; omega) hb
      · exact hall i' j a b (by omega) ha hb
  · have hin : ¬ i < n2 := by simpa using h
    repeat (first | refine byW ?_ | (refine byV ?_; intro w hw))
    refine ⟨_, rfl, ret_b rfl ?_, hw.drop⟩
    refine (decP_t ⟨fun c hc => ?_, fun p q a b ha hb => ?_⟩).symm
    · rw [← hcs] at hc
      obtain ⟨x, hx, rfl⟩ := List.mem_map.1 hc
      obtain ⟨q, hq, he⟩ := List.getElem_of_mem hx
      exact hsort q x (by rw [List.getElem?_eq_getElem hq, he])
    · rw [← hcs, List.getElem?_map] at ha hb
      obtain ⟨x, hx, rfl⟩ := Option.map_eq_some_iff.1 ha
      obtain ⟨y, hy, rfl⟩ := Option.map_eq_some_iff.1 hb
      exact hall p q x y (by have := (List.getElem?_eq_some_iff.1 hx).1; omega) hx hy⟩
end Go.Proofs.YtimbobmmijgkiaaGreatDoor
end
/- Validate's checks: regions do not overlap (loops printed by a program). -/
section
open Go Mk
namespace Go.Proofs.YtimbobmmijgkiaaGreatDoor
set_option maxHeartbeats 8000000
attribute [local irreducible] Calls

abbrev blkRows (l : List (Int × Int)) : List (List Value) := l.map fun p => [.int .u64 p.1, .int .u64 p.2]
def memBlk (m : MemT) : Int × Int := (m.Base, IntKind.u64.wrap (m.Base + m.Size))
def devBlk (m : DevT) : Int × Int := (m.Base, IntKind.u64.wrap (m.Base + m.Size))
def regs (H : HwT) : List (Int × Int) := H.Mems.map memBlk ++ H.Devs.map devBlk
def apartB (x y : Int × Int) : Bool := !(decide (x.1 < y.2) && decide (y.1 < x.2))
def DisjP (H : HwT) : Prop := ∀ (i k : Nat) (a b : Int × Int), k < i → (regs H)[i]? = some a → (regs H)[k]? = some b → apartB a b = true
noncomputable def disjB (H : HwT) : Bool := decP (DisjP H)
theorem rows_snocB {α : Type} {f : α → Int × Int} {l : List α} {L : List (Int × Int)} {k : Nat} {x : α} (hx : l[k]? = some x) : blkRows (L ++ (l.take k).map f) ++ [[.int .u64 (f x).1, .int .u64 (f x).2]] = blkRows (L ++ (l.take (k + 1)).map f) := by rw [take_succ_of hx]; simp [blkRows]
theorem rows_snocN {α : Type} {f : α → Int} {l : List α} {L : List Int} {k : Nat} {x : α} (hx : l[k]? = some x) : intRows (L ++ (l.take k).map f) ++ [[.int .i64 (f x)]] = intRows (L ++ (l.take (k + 1)).map f) := by rw [take_succ_of hx]; simp [intRows]
theorem disjoint_any {Γ : Gho} {S : List Res} {w : World} {u : Value} {H : HwT} [hh : HwR Γ u H] (hcnt : countsB H = true) (hw : Wd Γ S w) : Calls Tryz.prog 56 #[u] w fun e w' => e = .returned (.bool (disjB H)) ∧ Wd Γ S w' := by
  obtain ⟨-, l1, l2, l3, l4, l5⟩ := counts_le hcnt
  obtain ⟨a1, n1, c1, a2, n2, c2, a3, n3, c3, a4, n4, c4, a5, n5, c5, cs, rfl, hcs, hok, hsz, r1, r2, r3, r4, r5⟩ := hh.h
  obtain ⟨hn1, hm1, hx1⟩ := rep_facts r1
  obtain ⟨hn2, hm2, hx2⟩ := rep_facts r2
  obtain ⟨hn3, hm3, hx3⟩ := rep_facts r3
  obtain ⟨hn4, hm4, hx4⟩ := rep_facts r4
  obtain ⟨hn5, hm5, hx5⟩ := rep_facts r5
  simp only [List.length_map] at hn1 hn2 hn3 hn4 hn5
  refine calls_of_W Tryz.func56 rfl rfl ?_
  repeat (first | refine byW ?_ | (refine byV ?_; intro w hw))
  refine lBox ?_
  intro b1 w hw
  have hw : Wd Γ (.blk b1 (.cells #[.string H.Name, .slice a1 n1 c1, .slice a2 n2 c2, .slice a3 n3 c3, .slice a4 n4 c4, .slice a5 n5 c5] 35) :: S) w := hw
  obtain ⟨q, m, d, hq⟩ : ∃ (q : Option Addr) (m d : Nat), (.slice none 0 0 : Value) = .slice q m d := ⟨_, _, _, rfl⟩
  have hw : Wd Γ (.own (.slice none 0 0) 151 2 (blkRows []) :: .blk b1 (.cells #[.string H.Name, .slice a1 n1 c1, .slice a2 n2 c2, .slice a3 n3 c3, .slice a4 n4 c4, .slice a5 n5 c5] 35) :: S) w := Wd.addNil hw
  repeat (first | refine byW ?_ | (refine byV ?_; intro w hw))
  rw [hq] at *
  clear hq
  rw [show ([] : List (Int × Int)) = (([] : List (Int × Int)) ++ (H.Mems.take 0).map memBlk) from by simp] at hw
  repeat (first | refine byW ?_ | (refine byV ?_; intro w hw))
  refine W_loop (fun μ ρ w => ∃ (k : Nat) (q : Option Addr) (m d : Nat), μ + k = n4 ∧ Has ρ [(1, .pointer (some ⟨b1, 0, none⟩)), (3, .slice q m d), (11, .slice a4 n4 c4), (12, .int .i64 n4), (13, .int .i64 k)] ∧ Wd Γ (.own (.slice q m d) 151 2 (blkRows (([] : List (Int × Int)) ++ (H.Mems.take k).map memBlk)) :: .blk b1 (.cells #[.string H.Name, .slice a1 n1 c1, .slice a2 n2 c2, .slice a3 n3 c3, .slice a4 n4 c4, .slice a5 n5 c5] 35) :: S) w) n4 ⟨0, q, m, d, by omega, ⟨rfl, rfl, rfl, rfl, rfl, trivial⟩, hw⟩ ?_
  clear hw
  rintro μ ρ w ⟨k, q, m, d, hk, hρ, hw⟩
  have hm := own_len (i := 0) hw rfl
  simp only [blkRows, List.length_map, List.length_append, List.length_nil, List.length_take] at hm
  rw [hρ.eq]
  repeat (first | refine byW ?_ | (refine byV ?_; intro w hw))
  refine W_cond rfl (fun h => ?_) (fun h => ?_)
  · have hkn : k < n4 := by simpa using h
    obtain ⟨x, hx⟩ := get_lt (l := H.Mems) (k := k) (by omega)
    repeat (first | refine byW ?_ | (refine byV ?_; intro w hw))
    refine lAlloc ?_
    intro b9 w hw
    refine lStore ?_
    intro w hw
    have hw : Wd Γ (.blk b9 (.cells (enc x).toArray 47) :: .own (.slice q m d) 151 2 (blkRows (([] : List (Int × Int)) ++ (H.Mems.take k).map memBlk)) :: .blk b1 (.cells #[.string H.Name, .slice a1 n1 c1, .slice a2 n2 c2, .slice a3 n3 c3, .slice a4 n4 c4, .slice a5 n5 c5] 35) :: S) w := hw
    repeat (first | refine byW ?_ | (refine byV ?_; intro w hw))
    refine lBuildSlice [[.int .u64 (memBlk x).1, .int .u64 (memBlk x).2]] ?_
    intro ab w hw
    refine lApp (i := 2) (rows2 := [[.int .u64 (memBlk x).1, .int .u64 (memBlk x).2]]) ?_ (Wd.own_rd (i := 0) hw rfl)
    intro v' w hw
    obtain ⟨q', m', d', rfl, -, -, -⟩ := hw.own_shape (i := 2) rfl
    have hw : Wd Γ (.own (.slice q' m' d') 151 2 (blkRows (([] : List (Int × Int)) ++ (H.Mems.take (k + 1)).map memBlk)) :: .blk b1 (.cells #[.string H.Name, .slice a1 n1 c1, .slice a2 n2 c2, .slice a3 n3 c3, .slice a4 n4 c4, .slice a5 n5 c5] 35) :: S) w := by
      rw [← rows_snocB hx]; exact hw.drop.drop
    repeat (first | refine byW ?_ | (refine byV ?_; intro w hw))
    exact ⟨μ - 1, by omega, k + 1, _, _, _, by omega, ⟨rfl, rfl, rfl, rfl, rfl, trivial⟩, hw⟩
  have hkn : ¬ k < n4 := by simpa using h
  rw [List.take_of_length_le (l := H.Mems) (by omega)] at hw
  clear h hkn hρ hk hm
  rw [List.nil_append] at hw
  rw [show H.Mems.map memBlk = (H.Mems.map memBlk ++ (H.Devs.take 0).map devBlk) from by simp] at hw
  repeat (first | refine byW ?_ | (refine byV ?_; intro w hw))
  refine W_loop (fun μ ρ w => ∃ (k : Nat) (q : Option Addr) (m d : Nat), μ + k = n5 ∧ Has ρ [(1, .pointer (some ⟨b1, 0, none⟩)), (3, .slice q m d), (30, .slice a5 n5 c5), (31, .int .i64 n5), (32, .int .i64 k)] ∧ Wd Γ (.own (.slice q m d) 151 2 (blkRows (H.Mems.map memBlk ++ (H.Devs.take k).map devBlk)) :: .blk b1 (.cells #[.string H.Name, .slice a1 n1 c1, .slice a2 n2 c2, .slice a3 n3 c3, .slice a4 n4 c4, .slice a5 n5 c5] 35) :: S) w) n5 ⟨0, q, m, d, by omega, ⟨rfl, rfl, rfl, rfl, rfl, trivial⟩, hw⟩ ?_
  clear hw
  rintro μ ρ w ⟨k, q, m, d, hk, hρ, hw⟩
  have hm := own_len (i := 0) hw rfl
  simp only [blkRows, List.length_map, List.length_append, List.length_nil, List.length_take] at hm
  rw [hρ.eq]
  repeat (first | refine byW ?_ | (refine byV ?_; intro w hw))
  refine W_cond rfl (fun h => ?_) (fun h => ?_)
  · have hkn : k < n5 := by simpa using h
    obtain ⟨x, hx⟩ := get_lt (l := H.Devs) (k := k) (by omega)
    repeat (first | refine byW ?_ | (refine byV ?_; intro w hw))
    refine lAlloc ?_
    intro b9 w hw
    refine lStore ?_
    intro w hw
    have hw : Wd Γ (.blk b9 (.cells (enc x).toArray 84) :: .own (.slice q m d) 151 2 (blkRows (H.Mems.map memBlk ++ (H.Devs.take k).map devBlk)) :: .blk b1 (.cells #[.string H.Name, .slice a1 n1 c1, .slice a2 n2 c2, .slice a3 n3 c3, .slice a4 n4 c4, .slice a5 n5 c5] 35) :: S) w := hw
    repeat (first | refine byW ?_ | (refine byV ?_; intro w hw))
    refine lBuildSlice [[.int .u64 (devBlk x).1, .int .u64 (devBlk x).2]] ?_
    intro ab w hw
    refine lApp (i := 2) (rows2 := [[.int .u64 (devBlk x).1, .int .u64 (devBlk x).2]]) ?_ (Wd.own_rd (i := 0) hw rfl)
    intro v' w hw
    obtain ⟨q', m', d', rfl, -, -, -⟩ := hw.own_shape (i := 2) rfl
    have hw : Wd Γ (.own (.slice q' m' d') 151 2 (blkRows (H.Mems.map memBlk ++ (H.Devs.take (k + 1)).map devBlk)) :: .blk b1 (.cells #[.string H.Name, .slice a1 n1 c1, .slice a2 n2 c2, .slice a3 n3 c3, .slice a4 n4 c4, .slice a5 n5 c5] 35) :: S) w := by
      rw [← rows_snocB hx]; exact hw.drop.drop
    repeat (first | refine byW ?_ | (refine byV ?_; intro w hw))
    exact ⟨μ - 1, by omega, k + 1, _, _, _, by omega, ⟨rfl, rfl, rfl, rfl, rfl, trivial⟩, hw⟩
  have hkn : ¬ k < n5 := by simpa using h
  rw [List.take_of_length_le (l := H.Devs) (by omega)] at hw
  clear h hkn hρ hk hm
  have hw : Wd Γ (.own (.slice q m d) 151 2 (blkRows (regs H)) :: .blk b1 (.cells #[.string H.Name, .slice a1 n1 c1, .slice a2 n2 c2, .slice a3 n3 c3, .slice a4 n4 c4, .slice a5 n5 c5] 35) :: S) w := hw
  have hm := own_len (i := 0) hw rfl
  simp only [blkRows, List.length_map] at hm
  have hmb : m ≤ 96 := by rw [hm]; simp [regs]; omega
  repeat (first | refine byW ?_ | (refine byV ?_; intro w hw))
  refine W_loop (fun μ ρ w => ∃ (i : Nat), μ + i = m ∧ Has ρ [(3, .slice q m d), (49, .int .i64 m), (50, .int .i64 i)] ∧ (∀ (i' k : Nat) (a b : Int × Int), i' < i → k < i' → (regs H)[i']? = some a → (regs H)[k]? = some b → apartB a b = true) ∧ Wd Γ (.own (.slice q m d) 151 2 (blkRows (regs H)) :: .blk b1 (.cells #[.string H.Name, .slice a1 n1 c1, .slice a2 n2 c2, .slice a3 n3 c3, .slice a4 n4 c4, .slice a5 n5 c5] 35) :: S) w) m ⟨0, by omega, ⟨rfl, rfl, rfl, trivial⟩, fun i' k a b h => by omega, hw⟩ ?_
  clear hw
  rintro μ ρ w ⟨i, hi, hρ, hall, hw⟩
  rw [hρ.eq]
  repeat (first | refine byW ?_ | (refine byV ?_; intro w hw))
  refine W_cond rfl (fun h => ?_) (fun h => ?_)
  · have hin : i < m := by simpa using h
    obtain ⟨x, hx⟩ := get_lt (l := regs H) (k := i) (by omega)
    repeat (first | refine byW ?_ | (refine byV ?_; intro w hw))
    refine W_loop (fun μ2 ρ w => ∃ (k : Nat), μ2 + k = i ∧ Has ρ [(3, .slice q m d), (8, .int .i64 i), (9, .int .i64 k), (49, .int .i64 m), (50, .int .i64 i)] ∧ (∀ (j : Nat) (b : Int × Int), j < k → (regs H)[j]? = some b → apartB x b = true) ∧ Wd Γ (.own (.slice q m d) 151 2 (blkRows (regs H)) :: .blk b1 (.cells #[.string H.Name, .slice a1 n1 c1, .slice a2 n2 c2, .slice a3 n3 c3, .slice a4 n4 c4, .slice a5 n5 c5] 35) :: S) w) i ⟨0, by omega, ⟨rfl, rfl, rfl, rfl, rfl, trivial⟩, fun j b h => by omega, hw⟩ ?_
    clear hw
    rintro μ2 ρ w ⟨k, hk, hρ, hall2, hw⟩
    rw [hρ.eq]
    repeat (first | refine byW ?_ | (refine byV ?_; intro w hw))
    refine W_cond rfl (fun h2 => ?_) (fun h2 => ?_)
    · have hki : k < i := by simpa using h2
      obtain ⟨y, hy⟩ := get_lt (l := regs H) (k := k) (by omega)
      repeat (first | refine byW ?_ | (refine byV ?_; intro w hw))
      refine W_quiet (by kernel_rfl) (by kernel_rfl) hw ?_
      repeat (first | refine Q_nil ?_ | (apply Q_plain; first | (apply Q_go; first | refine qP ?_ | refine qPg ?_) | refine qY ?_) | (apply Q_guarded; first | (apply Q_go; first | refine qPG ?_ | refine qPgG ?_) | refine qG ?_))
      intro w hw
      refine W_cond rfl (fun h3 => ?_) (fun h3 => ?_)
      · have hp : apartB x y = false := by unfold apartB; exact congrArg (fun b => !b) h3
        repeat (first | refine byW ?_ | (refine byV ?_; intro w hw))
        refine ⟨_, rfl, ret_b rfl ?_, hw.drop.drop⟩
        refine (decP_f fun hP => ?_).symm
        rw [hP i k x y hki hx hy] at hp; cases hp
      · have hp : apartB x y = true := by unfold apartB; exact congrArg (fun b => !b) h3
        repeat (first | refine byW ?_ | (refine byV ?_; intro w hw))
        exact ⟨μ2 - 1, by omega, k + 1, by omega, ⟨rfl, rfl, rfl, rfl, rfl, trivial⟩, all_step hall2 hy hp, hw⟩
    · have hki : ¬ k < i := by simpa using h2
      repeat (first | refine byW ?_ | (refine byV ?_; intro w hw))
      refine ⟨μ - 1, by omega, i + 1, by omega, ⟨rfl, rfl, rfl, trivial⟩, fun i' j a b h1 h3 ha hb => ?_, hw⟩
      by_cases e : i' = i
      · subst e; rw [hx] at ha; cases ha
        exact hall2 j b (by omega) hb
      · exact hall i' j a b (by omega) h3 ha hb
  · have hin : ¬ i < m := by simpa using h
    repeat (first | refine byW ?_ | (refine byV ?_; intro w hw))
    refine ⟨_, rfl, ret_b rfl ?_, hw.drop.drop⟩
    exact (decP_t fun p q a b hpq ha hb => hall p q a b (by have := (List.getElem?_eq_some_iff.1 ha).1; omega) hpq ha hb).symm

/-! ### connected nodes -/
inductive Reach (ls : List LinkT) (s : Int) : Int → Prop
  | refl : Reach ls s s
  | ab {l : LinkT} : l ∈ ls → Reach ls s l.A → Reach ls s l.B
  | ba {l : LinkT} : l ∈ ls → Reach ls s l.B → Reach ls s l.A
def usedN (H : HwT) : List Int := (H.Cores.map (fun c => c.Node) ++ H.Mems.map (fun c => c.Node)) ++ H.Devs.map (fun c => c.Node)
def ConnP (H : HwT) : Prop := ∀ n ∈ usedN H, Reach H.Links ((usedN H).headD 0) n
noncomputable def connB (H : HwT) : Bool := decP (ConnP H)
theorem head_used {H : HwT} {s0 : Int} (h : (usedN H)[0]? = some s0) : (usedN H).headD 0 = s0 := by
  cases hu : usedN H with
  | nil => rw [hu] at h; cases h
  | cons a l => rw [hu] at h; simpa using h
theorem nodes_in {H : HwT} (h1 : coresRB H = true) (h2 : regionsRB H = true) : (∀ n ∈ usedN H, 0 ≤ n ∧ n < 64) ∧ ∀ l ∈ H.Links, 0 ≤ l.A ∧ l.A < 64 ∧ 0 ≤ l.B ∧ l.B < 64 := by
  unfold coresRB at h1
  unfold regionsRB at h2
  simp only [Bool.and_eq_true, List.all_eq_true] at h1 h2
  obtain ⟨hc, -, hl⟩ := h1
  obtain ⟨hm, hd⟩ := h2
  refine ⟨fun n hn => ?_, fun l hl' => ?_⟩
  · unfold usedN at hn
    simp only [List.mem_append, List.mem_map] at hn
    rcases hn with (⟨c, hcm, rfl⟩ | ⟨c, hcm, rfl⟩) | ⟨c, hcm, rfl⟩
    · have := hc c hcm; simp [coreRB, isNodeB] at this; omega
    · have := hm c hcm; simp [memRB, isNodeB] at this; omega
    · have := hd c hcm; simp [devRB, isNodeB] at this; omega
  · have := hl l hl'; simp [linkRB, isNodeB] at this; omega
structure Known (ls : List LinkT) (s : Int) (R : List Bool) : Prop where
  len : R.length = 64
  ok : ∀ (j : Nat), R[j]? = some true → ∃ n : Int, n.toNat = j ∧ 0 ≤ n ∧ Reach ls s n
theorem known_start {ls : List LinkT} {s : Int} (h : 0 ≤ s ∧ s < 64) : Known ls s ((List.replicate 64 false).set s.toNat true) := ⟨by simp, fun j hj => by
  rw [List.getElem?_set] at hj
  split at hj
  · rename_i e; exact ⟨s, e, h.1, .refl⟩
  · rw [List.getElem?_replicate] at hj
    split at hj <;> simp at hj⟩
theorem Known.set {ls : List LinkT} {s n : Int} {R : List Bool} (h : Known ls s R) (hn : 0 ≤ n) (hr : Reach ls s n) : Known ls s (R.set n.toNat true) := ⟨by simp [h.len], fun j hj => by
  rw [List.getElem?_set] at hj
  split at hj
  · rename_i e; exact ⟨n, e, hn, hr⟩
  · exact h.ok j hj⟩
theorem known_iff {ls : List LinkT} {s n : Int} {R : List Bool} (h : Known ls s R) (h0 : R[s.toNat]? = some true) (hs : 0 ≤ s) (hL : ∀ l ∈ ls, 0 ≤ l.A ∧ l.A < 64 ∧ 0 ≤ l.B ∧ l.B < 64) (hcl : ∀ l ∈ ls, R.getD l.A.toNat false = R.getD l.B.toNat false) (hn : 0 ≤ n ∧ n < 64) : R.getD n.toNat false = true ↔ Reach ls s n := by
  constructor
  · intro hg
    rw [List.getD_eq_getElem?_getD] at hg
    obtain ⟨b, hb⟩ := get_lt (l := R) (k := n.toNat) (by rw [h.len]; omega)
    rw [hb] at hg
    have hg : b = true := hg
    subst hg
    obtain ⟨x, hx, hx0, hr⟩ := h.ok _ hb
    have : x = n := by omega
    subst this; exact hr
  · intro hr
    clear hn
    induction hr with
    | refl => rw [List.getD_eq_getElem?_getD, h0]; rfl
    | ab hl _ ih => rw [← hcl _ hl]; exact ih
    | ba hl _ ih => rw [hcl _ hl]; exact ih
theorem set_self {R : List Bool} {k : Nat} {b : Bool} (h : k < R.length) : (R.set k b)[k]? = some b := by rw [List.getElem?_set_self h]
theorem getBool {R : List Bool} {k : Nat} {b : Bool} (h : R[k]? = some b) : ((R.map Value.bool).toArray)[0 + k * 1]? = some (.bool b) := by simp [h]
theorem putBool {R : List Bool} {k : Nat} {b : Bool} (h : k < R.length) : putCells (R.map Value.bool).toArray (0 + k * 1) [.bool b] = ((R.set k b).map Value.bool).toArray := by
  unfold putCells
  rw [Nat.zero_add, Nat.mul_one, List.set_eq_take_append_cons_drop, if_pos h]
  simp
theorem y_neqlb {P : Program} {d : Option Tmp} {T U ty : TypeId} {pos : String} {es : Array Edge} {g : Option (Nat × Bool)} {x y : Operand} {ρ : Fr} {w : World} {a b : Bool} (hT : P.underlying T = some .bool) (hx : ev ρ x = .bool a) (hy : ev ρ y = .bool b) : Mk.Yields P ⟨d, .binOp .neq T x y U, ty, pos, es, g⟩ ρ w (.bool (a != b)) := by
  unfold Mk.Yields; simp [execOp, go_sem, hx, hy, hT]; cases a <;> cases b <;> rfl
theorem count_set_le {R : List Bool} {k : Nat} : (R.set k true).count false ≤ R.count false := by
  induction R generalizing k with
  | nil => simp
  | cons b l ih =>
    cases k with
    | zero => cases b <;> simp
    | succ k => simp only [List.set_cons_succ, List.count_cons]; have := ih (k := k); omega
theorem count_set_lt {R : List Bool} {k : Nat} (h : R[k]? = some false) : (R.set k true).count false + 1 ≤ R.count false := by
  induction R generalizing k with
  | nil => simp at h
  | cons b l ih =>
    cases k with
    | zero => simp at h; subst h; simp
    | succ k => simp at h; simp only [List.set_cons_succ, List.count_cons]; have := ih (k := k) (by simpa using h); omega
theorem connected_any {Γ : Gho} {S : List Res} {w : World} {u : Value} {H : HwT} [hh : HwR Γ u H] (hcnt : countsB H = true) (hcr : coresRB H = true) (hrr : regionsRB H = true) (hw : Wd Γ S w) : Calls Tryz.prog 57 #[u] w fun e w' => e = .returned (.bool (connB H)) ∧ Wd Γ S w' := by
  obtain ⟨l0, l1, l2, l3, l4, l5⟩ := counts_le hcnt
  obtain ⟨hNd, hLk⟩ := nodes_in hcr hrr
  obtain ⟨a1, n1, c1, a2, n2, c2, a3, n3, c3, a4, n4, c4, a5, n5, c5, cs, rfl, hcs, hok, hsz, r1, r2, r3, r4, r5⟩ := hh.h
  obtain ⟨hn1, hm1, hx1⟩ := rep_facts r1
  obtain ⟨hn2, hm2, hx2⟩ := rep_facts r2
  obtain ⟨hn3, hm3, hx3⟩ := rep_facts r3
  obtain ⟨hn4, hm4, hx4⟩ := rep_facts r4
  obtain ⟨hn5, hm5, hx5⟩ := rep_facts r5
  simp only [List.length_map] at hn1 hn2 hn3 hn4 hn5
  refine calls_of_W Tryz.func57 rfl rfl ?_
  repeat (first | refine byW ?_ | (refine byV ?_; intro w hw))
  refine lBox ?_
  intro b1 w hw
  have hw : Wd Γ (.blk b1 (.cells #[.string H.Name, .slice a1 n1 c1, .slice a2 n2 c2, .slice a3 n3 c3, .slice a4 n4 c4, .slice a5 n5 c5] 35) :: S) w := hw
  obtain ⟨q, m, d, hq⟩ : ∃ (q : Option Addr) (m d : Nat), (.slice none 0 0 : Value) = .slice q m d := ⟨_, _, _, rfl⟩
  have hw : Wd Γ (.own (.slice none 0 0) 3 1 (intRows []) :: .blk b1 (.cells #[.string H.Name, .slice a1 n1 c1, .slice a2 n2 c2, .slice a3 n3 c3, .slice a4 n4 c4, .slice a5 n5 c5] 35) :: S) w := Wd.addNil hw
  repeat (first | refine byW ?_ | (refine byV ?_; intro w hw))
  rw [hq] at *
  clear hq
  rw [show ([] : List Int) = (([] : List Int) ++ (H.Cores.take 0).map (fun c => c.Node)) from by simp] at hw
  repeat (first | refine byW ?_ | (refine byV ?_; intro w hw))
  refine W_loop (fun μ ρ w => ∃ (k : Nat) (q : Option Addr) (m d : Nat), μ + k = n1 ∧ Has ρ [(1, .pointer (some ⟨b1, 0, none⟩)), (3, .slice q m d), (17, .slice a1 n1 c1), (18, .int .i64 n1), (19, .int .i64 k)] ∧ Wd Γ (.own (.slice q m d) 3 1 (intRows (([] : List Int) ++ (H.Cores.take k).map (fun c => c.Node))) :: .blk b1 (.cells #[.string H.Name, .slice a1 n1 c1, .slice a2 n2 c2, .slice a3 n3 c3, .slice a4 n4 c4, .slice a5 n5 c5] 35) :: S) w) n1 ⟨0, q, m, d, by omega, ⟨rfl, rfl, rfl, rfl, rfl, trivial⟩, hw⟩ ?_
  clear hw
  rintro μ ρ w ⟨k, q, m, d, hk, hρ, hw⟩
  have hm := own_len (i := 0) hw rfl
  simp only [intRows, List.length_map, List.length_append, List.length_nil, List.length_take] at hm
  rw [hρ.eq]
  repeat (first | refine byW ?_ | (refine byV ?_; intro w hw))
  refine W_cond rfl (fun h => ?_) (fun h => ?_)
  · have hkn : k < n1 := by simpa using h
    obtain ⟨x, hx⟩ := get_lt (l := H.Cores) (k := k) (by omega)
    repeat (first | refine byW ?_ | (refine byV ?_; intro w hw))
    refine lAlloc ?_
    intro b9 w hw
    refine lStore ?_
    intro w hw
    have hw : Wd Γ (.blk b9 (.cells (enc x).toArray 77) :: .own (.slice q m d) 3 1 (intRows (([] : List Int) ++ (H.Cores.take k).map (fun c => c.Node))) :: .blk b1 (.cells #[.string H.Name, .slice a1 n1 c1, .slice a2 n2 c2, .slice a3 n3 c3, .slice a4 n4 c4, .slice a5 n5 c5] 35) :: S) w := hw
    repeat (first | refine byW ?_ | (refine byV ?_; intro w hw))
    refine lBuildSlice [[.int .i64 x.Node]] ?_
    intro ab w hw
    refine lApp (i := 2) (rows2 := [[.int .i64 x.Node]]) ?_ (Wd.own_rd (i := 0) hw rfl)
    intro v' w hw
    obtain ⟨q', m', d', rfl, -, -, -⟩ := hw.own_shape (i := 2) rfl
    have hw : Wd Γ (.own (.slice q' m' d') 3 1 (intRows (([] : List Int) ++ (H.Cores.take (k + 1)).map (fun c => c.Node))) :: .blk b1 (.cells #[.string H.Name, .slice a1 n1 c1, .slice a2 n2 c2, .slice a3 n3 c3, .slice a4 n4 c4, .slice a5 n5 c5] 35) :: S) w := by
      rw [← rows_snocN (f := fun c : CoreT => c.Node) hx]; exact hw.drop.drop
    repeat (first | refine byW ?_ | (refine byV ?_; intro w hw))
    exact ⟨μ - 1, by omega, k + 1, _, _, _, by omega, ⟨rfl, rfl, rfl, rfl, rfl, trivial⟩, hw⟩
  have hkn : ¬ k < n1 := by simpa using h
  rw [List.take_of_length_le (l := H.Cores) (by omega)] at hw
  clear h hkn hρ hk hm
  rw [List.nil_append] at hw
  rw [show H.Cores.map (fun c => c.Node) = (H.Cores.map (fun c => c.Node) ++ (H.Mems.take 0).map (fun c => c.Node)) from by simp] at hw
  repeat (first | refine byW ?_ | (refine byV ?_; intro w hw))
  refine W_loop (fun μ ρ w => ∃ (k : Nat) (q : Option Addr) (m d : Nat), μ + k = n4 ∧ Has ρ [(1, .pointer (some ⟨b1, 0, none⟩)), (3, .slice q m d), (30, .slice a4 n4 c4), (31, .int .i64 n4), (32, .int .i64 k)] ∧ Wd Γ (.own (.slice q m d) 3 1 (intRows (H.Cores.map (fun c => c.Node) ++ (H.Mems.take k).map (fun c => c.Node))) :: .blk b1 (.cells #[.string H.Name, .slice a1 n1 c1, .slice a2 n2 c2, .slice a3 n3 c3, .slice a4 n4 c4, .slice a5 n5 c5] 35) :: S) w) n4 ⟨0, q, m, d, by omega, ⟨rfl, rfl, rfl, rfl, rfl, trivial⟩, hw⟩ ?_
  clear hw
  rintro μ ρ w ⟨k, q, m, d, hk, hρ, hw⟩
  have hm := own_len (i := 0) hw rfl
  simp only [intRows, List.length_map, List.length_append, List.length_nil, List.length_take] at hm
  rw [hρ.eq]
  repeat (first | refine byW ?_ | (refine byV ?_; intro w hw))
  refine W_cond rfl (fun h => ?_) (fun h => ?_)
  · have hkn : k < n4 := by simpa using h
    obtain ⟨x, hx⟩ := get_lt (l := H.Mems) (k := k) (by omega)
    repeat (first | refine byW ?_ | (refine byV ?_; intro w hw))
    refine lAlloc ?_
    intro b9 w hw
    refine lStore ?_
    intro w hw
    have hw : Wd Γ (.blk b9 (.cells (enc x).toArray 47) :: .own (.slice q m d) 3 1 (intRows (H.Cores.map (fun c => c.Node) ++ (H.Mems.take k).map (fun c => c.Node))) :: .blk b1 (.cells #[.string H.Name, .slice a1 n1 c1, .slice a2 n2 c2, .slice a3 n3 c3, .slice a4 n4 c4, .slice a5 n5 c5] 35) :: S) w := hw
    repeat (first | refine byW ?_ | (refine byV ?_; intro w hw))
    refine lBuildSlice [[.int .i64 x.Node]] ?_
    intro ab w hw
    refine lApp (i := 2) (rows2 := [[.int .i64 x.Node]]) ?_ (Wd.own_rd (i := 0) hw rfl)
    intro v' w hw
    obtain ⟨q', m', d', rfl, -, -, -⟩ := hw.own_shape (i := 2) rfl
    have hw : Wd Γ (.own (.slice q' m' d') 3 1 (intRows (H.Cores.map (fun c => c.Node) ++ (H.Mems.take (k + 1)).map (fun c => c.Node))) :: .blk b1 (.cells #[.string H.Name, .slice a1 n1 c1, .slice a2 n2 c2, .slice a3 n3 c3, .slice a4 n4 c4, .slice a5 n5 c5] 35) :: S) w := by
      rw [← rows_snocN (f := fun c : MemT => c.Node) hx]; exact hw.drop.drop
    repeat (first | refine byW ?_ | (refine byV ?_; intro w hw))
    exact ⟨μ - 1, by omega, k + 1, _, _, _, by omega, ⟨rfl, rfl, rfl, rfl, rfl, trivial⟩, hw⟩
  have hkn : ¬ k < n4 := by simpa using h
  rw [List.take_of_length_le (l := H.Mems) (by omega)] at hw
  clear h hkn hρ hk hm
  rw [show (H.Cores.map (fun c => c.Node) ++ H.Mems.map (fun c => c.Node)) = ((H.Cores.map (fun c => c.Node) ++ H.Mems.map (fun c => c.Node)) ++ (H.Devs.take 0).map (fun c => c.Node)) from by simp] at hw
  repeat (first | refine byW ?_ | (refine byV ?_; intro w hw))
  refine W_loop (fun μ ρ w => ∃ (k : Nat) (q : Option Addr) (m d : Nat), μ + k = n5 ∧ Has ρ [(1, .pointer (some ⟨b1, 0, none⟩)), (3, .slice q m d), (43, .slice a5 n5 c5), (44, .int .i64 n5), (45, .int .i64 k)] ∧ Wd Γ (.own (.slice q m d) 3 1 (intRows ((H.Cores.map (fun c => c.Node) ++ H.Mems.map (fun c => c.Node)) ++ (H.Devs.take k).map (fun c => c.Node))) :: .blk b1 (.cells #[.string H.Name, .slice a1 n1 c1, .slice a2 n2 c2, .slice a3 n3 c3, .slice a4 n4 c4, .slice a5 n5 c5] 35) :: S) w) n5 ⟨0, q, m, d, by omega, ⟨rfl, rfl, rfl, rfl, rfl, trivial⟩, hw⟩ ?_
  clear hw
  rintro μ ρ w ⟨k, q, m, d, hk, hρ, hw⟩
  have hm := own_len (i := 0) hw rfl
  simp only [intRows, List.length_map, List.length_append, List.length_nil, List.length_take] at hm
  rw [hρ.eq]
  repeat (first | refine byW ?_ | (refine byV ?_; intro w hw))
  refine W_cond rfl (fun h => ?_) (fun h => ?_)
  · have hkn : k < n5 := by simpa using h
    obtain ⟨x, hx⟩ := get_lt (l := H.Devs) (k := k) (by omega)
    repeat (first | refine byW ?_ | (refine byV ?_; intro w hw))
    refine lAlloc ?_
    intro b9 w hw
    refine lStore ?_
    intro w hw
    have hw : Wd Γ (.blk b9 (.cells (enc x).toArray 84) :: .own (.slice q m d) 3 1 (intRows ((H.Cores.map (fun c => c.Node) ++ H.Mems.map (fun c => c.Node)) ++ (H.Devs.take k).map (fun c => c.Node))) :: .blk b1 (.cells #[.string H.Name, .slice a1 n1 c1, .slice a2 n2 c2, .slice a3 n3 c3, .slice a4 n4 c4, .slice a5 n5 c5] 35) :: S) w := hw
    repeat (first | refine byW ?_ | (refine byV ?_; intro w hw))
    refine lBuildSlice [[.int .i64 x.Node]] ?_
    intro ab w hw
    refine lApp (i := 2) (rows2 := [[.int .i64 x.Node]]) ?_ (Wd.own_rd (i := 0) hw rfl)
    intro v' w hw
    obtain ⟨q', m', d', rfl, -, -, -⟩ := hw.own_shape (i := 2) rfl
    have hw : Wd Γ (.own (.slice q' m' d') 3 1 (intRows ((H.Cores.map (fun c => c.Node) ++ H.Mems.map (fun c => c.Node)) ++ (H.Devs.take (k + 1)).map (fun c => c.Node))) :: .blk b1 (.cells #[.string H.Name, .slice a1 n1 c1, .slice a2 n2 c2, .slice a3 n3 c3, .slice a4 n4 c4, .slice a5 n5 c5] 35) :: S) w := by
      rw [← rows_snocN (f := fun c : DevT => c.Node) hx]; exact hw.drop.drop
    repeat (first | refine byW ?_ | (refine byV ?_; intro w hw))
    exact ⟨μ - 1, by omega, k + 1, _, _, _, by omega, ⟨rfl, rfl, rfl, rfl, rfl, trivial⟩, hw⟩
  have hkn : ¬ k < n5 := by simpa using h
  rw [List.take_of_length_le (l := H.Devs) (by omega)] at hw
  clear h hkn hρ hk hm
  have hw : Wd Γ (.own (.slice q m d) 3 1 (intRows (usedN H)) :: .blk b1 (.cells #[.string H.Name, .slice a1 n1 c1, .slice a2 n2 c2, .slice a3 n3 c3, .slice a4 n4 c4, .slice a5 n5 c5] 35) :: S) w := hw
  have hm := own_len (i := 0) hw rfl
  simp only [intRows, List.length_map] at hm
  have hmb : 1 ≤ m ∧ m ≤ 128 := by rw [hm]; simp [usedN]; omega
  obtain ⟨s0, hs0⟩ := get_lt (l := usedN H) (k := 0) (by omega)
  obtain ⟨hs1, hs2⟩ := hNd s0 (List.mem_of_getElem? hs0)
  repeat (first | refine byW ?_ | (refine byV ?_; intro w hw))
  refine lAlloc ?_
  intro b10 w hw
  have hw : Wd Γ (.blk b10 (.cells ((List.replicate 64 false).map Value.bool).toArray 152) :: .own (.slice q m d) 3 1 (intRows (usedN H)) :: .blk b1 (.cells #[.string H.Name, .slice a1 n1 c1, .slice a2 n2 c2, .slice a3 n3 c3, .slice a4 n4 c4, .slice a5 n5 c5] 35) :: S) w := hw
  repeat (first | refine byW ?_ | (refine byV ?_; intro w hw))
  refine lStore (o := 0 + s0.toNat * 1) (ho := by simp; omega) ?_
  intro w hw
  have hw : Wd Γ (.blk b10 (.cells (putCells ((List.replicate 64 false).map Value.bool).toArray (0 + s0.toNat * 1) [.bool true]) 152) :: .own (.slice q m d) 3 1 (intRows (usedN H)) :: .blk b1 (.cells #[.string H.Name, .slice a1 n1 c1, .slice a2 n2 c2, .slice a3 n3 c3, .slice a4 n4 c4, .slice a5 n5 c5] 35) :: S) w := hw
  rw [putBool (by simp; omega)] at hw
  repeat (first | refine byW ?_ | (refine byV ?_; intro w hw))
  have hst : Known H.Links s0 ((List.replicate 64 false).set s0.toNat true) := known_start (by omega)
  refine W_loop (fun μ ρ w => ∃ (R : List Bool) (ch : Bool), 2 * R.count false + (if ch = true then 1 else 0) ≤ μ ∧ Known H.Links s0 R ∧ R[s0.toNat]? = some true ∧ (ch = false → ∀ l ∈ H.Links, R.getD l.A.toNat false = R.getD l.B.toNat false) ∧ Has ρ [(1, .pointer (some ⟨b1, 0, none⟩)), (3, .slice q m d), (10, .pointer (some ⟨b10, 0, none⟩)), (11, .bool ch)] ∧ Wd Γ (.blk b10 (.cells ((R).map Value.bool).toArray 152) :: .own (.slice q m d) 3 1 (intRows (usedN H)) :: .blk b1 (.cells #[.string H.Name, .slice a1 n1 c1, .slice a2 n2 c2, .slice a3 n3 c3, .slice a4 n4 c4, .slice a5 n5 c5] 35) :: S) w) 200 ⟨_, true, by have := List.count_le_length (a := false) (l := (List.replicate 64 false).set s0.toNat true); simp at this ⊢; omega, hst, set_self (by simp; omega), (fun h => by cases h), ⟨rfl, rfl, rfl, rfl, trivial⟩, hw⟩ ?_
  clear hw
  rintro μ ρ w ⟨R, ch, hμ, hkn, hR0, hcl, hρ, hw⟩
  have hRl := hkn.len
  rw [hρ.eq]
  repeat (first | refine byW ?_ | (refine byV ?_; intro w hw))
  refine W_cond rfl (fun h => ?_) (fun h => ?_)
  · subst h
    clear hcl
    repeat (first | refine byW ?_ | (refine byV ?_; intro w hw))
    refine W_loop (fun μ2 ρ w => ∃ (k : Nat) (R2 : List Bool) (ch : Bool), μ2 + k = n3 ∧ Known H.Links s0 R2 ∧ R2[s0.toNat]? = some true ∧ 2 * R2.count false + (if ch = true then 1 else 0) + 1 ≤ 2 * R.count false + 1 ∧ (ch = false → ∀ (i : Nat) (l : LinkT), i < k → H.Links[i]? = some l → R2.getD l.A.toNat false = R2.getD l.B.toNat false) ∧ Has ρ [(1, .pointer (some ⟨b1, 0, none⟩)), (3, .slice q m d), (10, .pointer (some ⟨b10, 0, none⟩)), (11, .bool ch), (61, .slice a3 n3 c3), (62, .int .i64 n3), (63, .int .i64 k)] ∧ Wd Γ (.blk b10 (.cells ((R2).map Value.bool).toArray 152) :: .own (.slice q m d) 3 1 (intRows (usedN H)) :: .blk b1 (.cells #[.string H.Name, .slice a1 n1 c1, .slice a2 n2 c2, .slice a3 n3 c3, .slice a4 n4 c4, .slice a5 n5 c5] 35) :: S) w) n3 ⟨0, R, false, by omega, hkn, hR0, by simp, fun _ i l h => by omega, ⟨rfl, rfl, rfl, rfl, rfl, rfl, rfl, trivial⟩, hw⟩ ?_
    clear hw hkn hR0 hRl
    rintro μ2 ρ w ⟨k, R2, ch, hk, hkn, hR0, hcnt2, hcl, hρ, hw⟩
    have hRl := hkn.len
    rw [hρ.eq]
    repeat (first | refine byW ?_ | (refine byV ?_; intro w hw))
    refine W_cond rfl (fun h2 => ?_) (fun h2 => ?_)
    · have hkn3 : k < n3 := by simpa using h2
      obtain ⟨x, hx⟩ := get_lt (l := H.Links) (k := k) (by omega)
      obtain ⟨hA0, hA1, hB0, hB1⟩ := hLk x (List.mem_of_getElem? hx)
      obtain ⟨ba, hba⟩ := get_lt (l := R2) (k := x.A.toNat) (by omega)
      obtain ⟨bb, hbb⟩ := get_lt (l := R2) (k := x.B.toNat) (by omega)
      repeat (first | refine byW ?_ | (refine byV ?_; intro w hw))
      refine lAlloc ?_
      intro b13 w hw
      refine lStore ?_
      intro w hw
      have hw : Wd Γ (.blk b13 (.cells (enc x).toArray 82) :: .blk b10 (.cells ((R2).map Value.bool).toArray 152) :: .own (.slice q m d) 3 1 (intRows (usedN H)) :: .blk b1 (.cells #[.string H.Name, .slice a1 n1 c1, .slice a2 n2 c2, .slice a3 n3 c3, .slice a4 n4 c4, .slice a5 n5 c5] 35) :: S) w := hw
      repeat (first | refine byW ?_ | (refine byV ?_; intro w hw))
      refine W_quiet (by kernel_rfl) (by kernel_rfl) hw ?_
      repeat (first | refine Q_nil ?_ | (apply Q_plain; first | (apply Q_go; first | refine qP ?_ | refine qPg ?_) | refine qY ?_) | (apply Q_guarded; first | (apply Q_go; first | refine qPG ?_ | refine qPgG ?_) | refine qG ?_))
      refine qY (v := .bool ba) ?_ (hy := fun w hw => y_l1b (i := 1) hw rfl rfl (getBool hba))
      repeat (first | refine Q_nil ?_ | (apply Q_plain; first | (apply Q_go; first | refine qP ?_ | refine qPg ?_) | refine qY ?_) | (apply Q_guarded; first | (apply Q_go; first | refine qPG ?_ | refine qPgG ?_) | refine qG ?_))
      refine qY (v := .bool bb) ?_ (hy := fun w hw => y_l1b (i := 1) hw rfl rfl (getBool hbb))
      repeat (first | refine Q_nil ?_ | (apply Q_plain; first | (apply Q_go; first | refine qP ?_ | refine qPg ?_) | refine qY ?_) | (apply Q_guarded; first | (apply Q_go; first | refine qPG ?_ | refine qPgG ?_) | refine qG ?_))
      refine qY (v := .bool (ba != bb)) ?_ (hy := fun w hw => y_neqlb Tryz.underlying4 rfl rfl)
      repeat (first | refine Q_nil ?_ | (apply Q_plain; first | (apply Q_go; first | refine qP ?_ | refine qPg ?_) | refine qY ?_) | (apply Q_guarded; first | (apply Q_go; first | refine qPG ?_ | refine qPgG ?_) | refine qG ?_))
      clear hw
      intro w hw
      refine W_cond rfl (fun h3 => ?_) (fun h3 => ?_)
      · repeat (first | refine byW ?_ | (refine byV ?_; intro w hw))
        refine W_mix1 [.blk b13 _] (.blk b10 _ :: .own _ _ _ _ :: .blk b1 _ :: S) [[],[],[],[],[],[0],[],[0]] [[],[],[],[],[],[0],[],[0]] hw ?_
        repeat (first | refine mY ?_ | refine mP ?_ | refine mPg ?_)
        refine mStoreC (o := 0 + x.A.toNat * 1) (ho := by simp; omega) ?_
        repeat (first | refine mY ?_ | refine mP ?_ | refine mPg ?_)
        refine mStoreC (o := 0 + x.B.toNat * 1) (ho := by
          show _ ≤ (putCells (R2.map Value.bool).toArray (0 + x.A.toNat * 1) [.bool true]).size
          rw [putBool (by omega)]; simp; omega) ?_
        refine mEnd0 ?_
        clear hw
        intro w hw
        have hw : Wd Γ ([.blk b13 (.cells (enc x).toArray 82)] ++ ((.blk b10 (.cells (putCells (putCells (R2.map Value.bool).toArray (0 + x.A.toNat * 1) [.bool true]) (0 + x.B.toNat * 1) [.bool true]) 152) :: .own (.slice q m d) 3 1 (intRows (usedN H)) :: .blk b1 (.cells #[.string H.Name, .slice a1 n1 c1, .slice a2 n2 c2, .slice a3 n3 c3, .slice a4 n4 c4, .slice a5 n5 c5] 35) :: S) ++ [])) w := hw
        rw [putBool (by omega), putBool (by simp; omega), List.append_nil] at hw
        have hw : Wd Γ (.blk b10 (.cells (((R2.set x.A.toNat true).set x.B.toNat true).map Value.bool).toArray 152) :: .own (.slice q m d) 3 1 (intRows (usedN H)) :: .blk b1 (.cells #[.string H.Name, .slice a1 n1 c1, .slice a2 n2 c2, .slice a3 n3 c3, .slice a4 n4 c4, .slice a5 n5 c5] 35) :: S) w := hw.drop
        repeat (first | refine byW ?_ | (refine byV ?_; intro w hw))
        have hne : ba ≠ bb := by cases ba <;> cases bb <;> simp_all
        have hRA : Reach H.Links s0 x.A ∧ Reach H.Links s0 x.B := by
          have hxm := List.mem_of_getElem? hx
          cases ba with
          | true =>
            obtain ⟨n, hn, hn0, hr⟩ := hkn.ok _ hba
            have : n = x.A := by omega
            subst this
            exact ⟨hr, .ab hxm hr⟩
          | false =>
            have : bb = true := by cases bb <;> simp_all
            subst this
            obtain ⟨n, hn, hn0, hr⟩ := hkn.ok _ hbb
            have : n = x.B := by omega
            subst this
            exact ⟨.ba hxm hr, hr⟩
        have hc2 : 2 * ((R2.set x.A.toNat true).set x.B.toNat true).count false + 2 ≤ 2 * R2.count false := by
          cases ba with
          | false =>
            have h1 := count_set_lt hba
            have h2 := count_set_le (R := R2.set x.A.toNat true) (k := x.B.toNat)
            omega
          | true =>
            have h5 : bb = false := by cases bb <;> simp_all
            subst h5
            have h6 : x.A.toNat ≠ x.B.toNat := fun e => by rw [e, hbb] at hba; cases hba
            have h1 := count_set_lt (R := R2.set x.A.toNat true) (k := x.B.toNat) (by rw [List.getElem?_set_ne h6]; exact hbb)
            have h2 := count_set_le (R := R2) (k := x.A.toNat)
            omega
        refine ⟨μ2 - 1, by omega, k + 1, _, true, by omega, (hkn.set hA0 hRA.1).set hB0 hRA.2, ?_, by simp; omega, (fun h => by cases h), ⟨rfl, rfl, rfl, rfl, rfl, rfl, rfl, trivial⟩, hw⟩
        rw [List.getElem?_set, List.getElem?_set]
        split
        · simp; omega
        · split
          · simp; omega
          · exact hR0
      · have hab : ba = bb := by cases ba <;> cases bb <;> simp_all
        repeat (first | refine byW ?_ | (refine byV ?_; intro w hw))
        refine ⟨μ2 - 1, by omega, k + 1, R2, ch, by omega, hkn, hR0, hcnt2, fun hc i l hi hl => ?_, ⟨rfl, rfl, rfl, rfl, rfl, rfl, rfl, trivial⟩, hw.drop⟩
        by_cases e : i = k
        · subst e; rw [hx] at hl; cases hl
          rw [List.getD_eq_getElem?_getD, List.getD_eq_getElem?_getD, hba, hbb, hab]
        · exact hcl hc i l (by omega) hl
    · have hkn3 : ¬ k < n3 := by simpa using h2
      repeat (first | refine byW ?_ | (refine byV ?_; intro w hw))
      refine ⟨μ - 1, by rw [if_pos rfl] at hμ; omega, R2, ch, by rw [if_pos rfl] at hμ; omega, hkn, hR0, fun hc l hl => ?_, ⟨rfl, rfl, rfl, rfl, trivial⟩, hw⟩
      obtain ⟨i, hi, he⟩ := List.getElem_of_mem hl
      exact hcl hc i l (by omega) (by rw [List.getElem?_eq_getElem hi, he])
  · subst h
    have hcl := hcl rfl
    clear hμ
    have hiff : ∀ n ∈ usedN H, (R.getD n.toNat false = true ↔ Reach H.Links s0 n) := fun n hn => known_iff hkn hR0 hs1 hLk hcl (hNd n hn)
    repeat (first | refine byW ?_ | (refine byV ?_; intro w hw))
    refine W_loop (fun μ ρ w => ∃ (k : Nat), μ + k = m ∧ (∀ (i : Nat) (n : Int), i < k → (usedN H)[i]? = some n → R.getD n.toNat false = true) ∧ Has ρ [(10, .pointer (some ⟨b10, 0, none⟩)), (83, .slice q m d), (84, .int .i64 m), (85, .int .i64 k)] ∧ Wd Γ (.blk b10 (.cells ((R).map Value.bool).toArray 152) :: .own (.slice q m d) 3 1 (intRows (usedN H)) :: .blk b1 (.cells #[.string H.Name, .slice a1 n1 c1, .slice a2 n2 c2, .slice a3 n3 c3, .slice a4 n4 c4, .slice a5 n5 c5] 35) :: S) w) m ⟨0, by omega, fun i n h => by omega, ⟨rfl, rfl, rfl, rfl, trivial⟩, hw⟩ ?_
    clear hw
    rintro μ ρ w ⟨k, hk, hall, hρ, hw⟩
    rw [hρ.eq]
    repeat (first | refine byW ?_ | (refine byV ?_; intro w hw))
    refine W_cond rfl (fun h2 => ?_) (fun h2 => ?_)
    · have hkm : k < m := by simpa using h2
      obtain ⟨x, hx⟩ := get_lt (l := usedN H) (k := k) (by omega)
      obtain ⟨hx0, hx1⟩ := hNd x (List.mem_of_getElem? hx)
      obtain ⟨bx, hbx⟩ := get_lt (l := R) (k := x.toNat) (by omega)
      have hg : R.getD x.toNat false = bx := by rw [List.getD_eq_getElem?_getD, hbx]; rfl
      repeat (first | refine byW ?_ | (refine byV ?_; intro w hw))
      refine lY (v := .bool bx) ?_ (hy := y_l1b (i := 0) hw rfl rfl (getBool hbx))
      repeat (first | refine byW ?_ | (refine byV ?_; intro w hw))
      refine W_cond rfl (fun h3 => ?_) (fun h3 => ?_)
      · have h3 : bx = false := by simpa using h3
        repeat (first | refine byW ?_ | (refine byV ?_; intro w hw))
        refine ⟨_, rfl, ret_b rfl ?_, hw.drop.drop.drop⟩
        refine (decP_f fun hP => ?_).symm
        have h4 := (hiff x (List.mem_of_getElem? hx)).2 (by rw [← head_used hs0]; exact hP x (List.mem_of_getElem? hx))
        rw [hg, h3] at h4; cases h4
      · have h3 : bx = true := by simpa using h3
        repeat (first | refine byW ?_ | (refine byV ?_; intro w hw))
        exact ⟨μ - 1, by omega, k + 1, by omega, all_step (p := fun n : Int => R.getD n.toNat false) hall hx (hg.trans h3), ⟨rfl, rfl, rfl, rfl, trivial⟩, hw⟩
    · have hkm : ¬ k < m := by simpa using h2
      repeat (first | refine byW ?_ | (refine byV ?_; intro w hw))
      refine ⟨_, rfl, ret_b rfl ?_, hw.drop.drop.drop⟩
      refine (decP_t fun n hn => ?_).symm
      rw [head_used hs0]
      obtain ⟨i, hi, he⟩ := List.getElem_of_mem hn
      exact (hiff n hn).1 (hall i n (by omega) (by rw [List.getElem?_eq_getElem hi, he]))
end Go.Proofs.YtimbobmmijgkiaaGreatDoor
end
/- Validate: the first error of a description. -/
section
open Go Mk
namespace Go.Proofs.YtimbobmmijgkiaaGreatDoor
set_option maxHeartbeats 8000000
attribute [local irreducible] Calls

noncomputable def validS (H : HwT) : Int :=
  if namesB H = false then 63 else if countsB H = false then 15 else if (coresRB H && regionsRB H) = false then 6 else if alignRB H = false then 59
  else if uniqueB H = false then 56 else if knownB H = false then 57 else if hierB H = false then 73 else if disjB H = false then 7 else if connB H = false then 60 else 0
instance pg_Validate {Γ : Gho} {u : Value} {H : HwT} [hh : HwR Γ u H] : PG Tryz.prog Γ 19 [u] (.int .i64 (validS H)) := ⟨fun S w hw => by
  obtain ⟨a1, n1, c1, a2, n2, c2, a3, n3, c3, a4, n4, c4, a5, n5, c5, cs, hu, -⟩ := hh.h
  subst hu
  refine calls_of_W Tryz.func19 rfl rfl ?_
  repeat (first | refine byW ?_ | (refine byV ?_; intro w hw))
  refine lBox ?_
  intro b1 w hw
  have hw : Wd Γ (.blk b1 (hwC H a1 n1 c1 a2 n2 c2 a3 n3 c3 a4 n4 c4 a5 n5 c5) :: S) w := hw
  unfold validS
  repeat (first | refine byW ?_ | (refine byV ?_; intro w hw))
  refine W_cond rfl (fun h => ?_) (fun h => ?_)
  · rw [if_pos (by simpa using h)]
    repeat (first | refine byW ?_ | (refine byV ?_; intro w hw))
    exact ⟨_, rfl, rfl, hw.drop⟩
  rw [if_neg (by simpa using h)]
  clear h
  repeat (first | refine byW ?_ | (refine byV ?_; intro w hw))
  refine W_cond rfl (fun h => ?_) (fun h => ?_)
  · rw [if_pos (by simpa using h)]
    repeat (first | refine byW ?_ | (refine byV ?_; intro w hw))
    exact ⟨_, rfl, rfl, hw.drop⟩
  have hcnt : countsB H = true := by simpa using h
  rw [if_neg (by simpa using h)]
  clear h
  repeat (first | refine byW ?_ | (refine byV ?_; intro w hw))
  refine W_cond rfl (fun h => ?_) (fun h => ?_)
  · have h : (!coresRB H || !regionsRB H) = true := h
    rw [if_pos (by revert h; cases coresRB H <;> cases regionsRB H <;> simp)]
    repeat (first | refine byW ?_ | (refine byV ?_; intro w hw))
    exact ⟨_, rfl, rfl, hw.drop⟩
  have h : (!coresRB H || !regionsRB H) = false := h
  rw [← Bool.not_and] at h
  have h : (coresRB H && regionsRB H) = true := by simpa using h
  rw [if_neg (by rw [h]; simp)]
  rw [Bool.and_eq_true] at h
  obtain ⟨hcr, hrr⟩ := h
  repeat (first | refine byW ?_ | (refine byV ?_; intro w hw))
  refine W_cond rfl (fun h => ?_) (fun h => ?_)
  · rw [if_pos (by simpa using h)]
    repeat (first | refine byW ?_ | (refine byV ?_; intro w hw))
    exact ⟨_, rfl, rfl, hw.drop⟩
  rw [if_neg (by simpa using h)]
  clear h
  repeat (first | refine byW ?_ | (refine byV ?_; intro w hw))
  refine lCall ?_
  refine (unique_any hcnt hw).mono ?_
  rintro r w ⟨rfl, hw⟩
  refine ⟨_, rfl, ?_⟩
  repeat (first | refine byW ?_ | (refine byV ?_; intro w hw))
  refine W_cond rfl (fun h => ?_) (fun h => ?_)
  · rw [if_pos (by simpa using h)]
    repeat (first | refine byW ?_ | (refine byV ?_; intro w hw))
    exact ⟨_, rfl, rfl, hw.drop⟩
  rw [if_neg (by simpa using h)]
  clear h
  repeat (first | refine byW ?_ | (refine byV ?_; intro w hw))
  refine W_cond rfl (fun h => ?_) (fun h => ?_)
  · rw [if_pos (by simpa using h)]
    repeat (first | refine byW ?_ | (refine byV ?_; intro w hw))
    exact ⟨_, rfl, rfl, hw.drop⟩
  rw [if_neg (by simpa using h)]
  clear h
  repeat (first | refine byW ?_ | (refine byV ?_; intro w hw))
  refine W_cond rfl (fun h => ?_) (fun h => ?_)
  · rw [if_pos (by simpa using h)]
    repeat (first | refine byW ?_ | (refine byV ?_; intro w hw))
    exact ⟨_, rfl, rfl, hw.drop⟩
  rw [if_neg (by simpa using h)]
  clear h
  repeat (first | refine byW ?_ | (refine byV ?_; intro w hw))
  refine lCall ?_
  refine (disjoint_any hcnt hw).mono ?_
  rintro r w ⟨rfl, hw⟩
  refine ⟨_, rfl, ?_⟩
  repeat (first | refine byW ?_ | (refine byV ?_; intro w hw))
  refine W_cond rfl (fun h => ?_) (fun h => ?_)
  · rw [if_pos (by simpa using h)]
    repeat (first | refine byW ?_ | (refine byV ?_; intro w hw))
    exact ⟨_, rfl, rfl, hw.drop⟩
  rw [if_neg (by simpa using h)]
  clear h
  repeat (first | refine byW ?_ | (refine byV ?_; intro w hw))
  refine lCall ?_
  refine (connected_any hcnt hcr hrr hw).mono ?_
  rintro r w ⟨rfl, hw⟩
  refine ⟨_, rfl, ?_⟩
  repeat (first | refine byW ?_ | (refine byV ?_; intro w hw))
  refine W_cond rfl (fun h => ?_) (fun h => ?_)
  · rw [if_pos (by simpa using h)]
    repeat (first | refine byW ?_ | (refine byV ?_; intro w hw))
    exact ⟨_, rfl, rfl, hw.drop⟩
  rw [if_neg (by simpa using h)]
  repeat (first | refine byW ?_ | (refine byV ?_; intro w hw))
  exact ⟨_, rfl, rfl, hw.drop⟩⟩
end Go.Proofs.YtimbobmmijgkiaaGreatDoor
end
/- Two descriptions are compared (loops printed by a program). -/
section
open Go Mk
namespace Go.Proofs.YtimbobmmijgkiaaGreatDoor
set_option maxHeartbeats 8000000
attribute [local irreducible] Calls

theorem eq_of_all {α : Type} {xs ys : List α} {k : Nat} (hl : xs.length = ys.length) (hk : xs.length ≤ k) (h : ∀ (i : Nat) (x y : α), i < k → xs[i]? = some x → ys[i]? = some y → x = y) : xs = ys := by
  apply List.ext_getElem? 
  intro i
  by_cases hi : i < xs.length
  · obtain ⟨x, hx⟩ := get_lt hi
    obtain ⟨y, hy⟩ := get_lt (l := ys) (k := i) (by omega)
    rw [hx, hy, h i x y (by omega) hx hy]
  · rw [List.getElem?_eq_none (by omega), List.getElem?_eq_none (by omega)]
theorem eq_step {α : Type} {xs ys : List α} {k : Nat} {x y : α} (h : ∀ (i : Nat) (x y : α), i < k → xs[i]? = some x → ys[i]? = some y → x = y) (hx : xs[k]? = some x) (hy : ys[k]? = some y) (e : x = y) : ∀ (i : Nat) (x y : α), i < k + 1 → xs[i]? = some x → ys[i]? = some y → x = y := fun i a b hi ha hb => by
  by_cases q : i = k
  · subst q; rw [hx] at ha; rw [hy] at hb; cases ha; cases hb; exact e
  · exact h i a b (by omega) ha hb
instance pg_eq_int {Γ : Gho} {v v2 : Value} {xs ys : List Int} [hr : SlC Γ v 1 (intRows xs)] [hr2 : SlC Γ v2 1 (intRows ys)] : PG Tryz.prog Γ 88 [v, v2] (.bool (decide (xs = ys))) := ⟨fun S w hw => by
  have hr := hr.h
  have hr2 := hr2.h
  obtain ⟨a, n, c, rfl, hn, hnc, hc⟩ := hr.shape
  obtain ⟨a', n', c', rfl, hn', hnc', hc'⟩ := hr2.shape
  simp only [intRows, List.length_map] at hn hn'
  refine calls_of_W Tryz.func88 rfl rfl ?_
  repeat (first | refine byW ?_ | (refine byV ?_; intro w hw))
  refine W_cond rfl (fun h => ?_) (fun h => ?_)
  · have h : n ≠ n' := by simp at h; omega
    repeat (first | refine byW ?_ | (refine byV ?_; intro w hw))
    exact ⟨_, rfl, ret_b rfl (decide_eq_false fun e => h (by rw [hn, hn', e])).symm, hw⟩
  have h : n = n' := by simp at h; omega
  repeat (first | refine byW ?_ | (refine byV ?_; intro w hw))
  refine W_loop (fun μ ρ w => ∃ (k : Nat), μ + k = n ∧ Has ρ [(0, .slice a n c), (1, .slice a' n' c'), (11, .slice a n c), (12, .int .i64 n), (13, .int .i64 k)] ∧ (∀ (i : Nat) (x y : Int), i < k → xs[i]? = some x → ys[i]? = some y → x = y) ∧ Wd Γ S w) n ⟨0, by omega, ⟨rfl, rfl, ?_, rfl, rfl, trivial⟩, fun i x y h => by omega, hw⟩ ?_
  · rfl
  clear hw
  rintro μ ρ w ⟨k, hk, hρ, hall, hw⟩
  rw [hρ.eq]
  repeat (first | refine byW ?_ | (refine byV ?_; intro w hw))
  refine W_cond rfl (fun h2 => ?_) (fun h2 => ?_)
  · have hkn : k < n := by simpa using h2
    obtain ⟨x, hx⟩ := get_lt (l := xs) (k := k) (by omega)
    obtain ⟨y, hy⟩ := get_lt (l := ys) (k := k) (by omega)
    repeat (first | refine byW ?_ | (refine byV ?_; intro w hw))
    refine W_quiet (by kernel_rfl) (by kernel_rfl) hw ?_
    repeat (first | refine Q_nil ?_ | (apply Q_plain; first | (apply Q_go; first | refine qP ?_ | refine qPg ?_) | refine qY ?_) | (apply Q_guarded; first | (apply Q_go; first | refine qPG ?_ | refine qPgG ?_) | refine qG ?_))
    intro w hw
    refine W_cond rfl (fun h3 => ?_) (fun h3 => ?_)
    · have h3 : x ≠ y := of_decide_eq_true h3
      repeat (first | refine byW ?_ | (refine byV ?_; intro w hw))
      exact ⟨_, rfl, ret_b rfl (decide_eq_false fun e => h3 (by subst e; rw [hx] at hy; cases hy; rfl)).symm, hw⟩
    · have h3 : x = y := Classical.not_not.1 (of_decide_eq_false h3)
      repeat (first | refine byW ?_ | (refine byV ?_; intro w hw))
      exact ⟨μ - 1, by omega, k + 1, by omega, ⟨rfl, rfl, rfl, rfl, rfl, trivial⟩, eq_step hall hx hy h3, hw⟩
  · have hkn : ¬ k < n := by simpa using h2
    repeat (first | refine byW ?_ | (refine byV ?_; intro w hw))
    exact ⟨_, rfl, ret_b rfl (decide_eq_true (eq_of_all (by omega) (by omega) hall)).symm, hw⟩⟩
instance pg_eq_core {Γ : Gho} {v v2 : Value} {xs ys : List CoreT} [hr : SlC Γ v 4 (xs.map enc)] [hr2 : SlC Γ v2 4 (ys.map enc)] : PG Tryz.prog Γ 89 [v, v2] (.bool (decide (xs = ys))) := ⟨fun S w hw => by
  have hr := hr.h
  have hr2 := hr2.h
  obtain ⟨a, n, c, rfl, hn, hnc, hc⟩ := hr.shape
  obtain ⟨a', n', c', rfl, hn', hnc', hc'⟩ := hr2.shape
  simp only [List.length_map] at hn hn'
  refine calls_of_W Tryz.func89 rfl rfl ?_
  repeat (first | refine byW ?_ | (refine byV ?_; intro w hw))
  refine W_cond rfl (fun h => ?_) (fun h => ?_)
  · have h : n ≠ n' := by simp at h; omega
    repeat (first | refine byW ?_ | (refine byV ?_; intro w hw))
    exact ⟨_, rfl, ret_b rfl (decide_eq_false fun e => h (by rw [hn, hn', e])).symm, hw⟩
  have h : n = n' := by simp at h; omega
  repeat (first | refine byW ?_ | (refine byV ?_; intro w hw))
  refine W_loop (fun μ ρ w => ∃ (k : Nat), μ + k = n ∧ Has ρ [(0, .slice a n c), (1, .slice a' n' c'), (11, .slice a n c), (12, .int .i64 n), (13, .int .i64 k)] ∧ (∀ (i : Nat) (x y : CoreT), i < k → xs[i]? = some x → ys[i]? = some y → x = y) ∧ Wd Γ S w) n ⟨0, by omega, ⟨rfl, rfl, ?_, rfl, rfl, trivial⟩, fun i x y h => by omega, hw⟩ ?_
  · rfl
  clear hw
  rintro μ ρ w ⟨k, hk, hρ, hall, hw⟩
  rw [hρ.eq]
  repeat (first | refine byW ?_ | (refine byV ?_; intro w hw))
  refine W_cond rfl (fun h2 => ?_) (fun h2 => ?_)
  · have hkn : k < n := by simpa using h2
    obtain ⟨x, hx⟩ := get_lt (l := xs) (k := k) (by omega)
    obtain ⟨y, hy⟩ := get_lt (l := ys) (k := k) (by omega)
    repeat (first | refine byW ?_ | (refine byV ?_; intro w hw))
    refine W_quiet (by kernel_rfl) (by kernel_rfl) hw ?_
    repeat (first | refine Q_nil ?_ | (apply Q_plain; first | (apply Q_go; first | refine qP ?_ | refine qPg ?_) | refine qY ?_) | (apply Q_guarded; first | (apply Q_go; first | refine qPG ?_ | refine qPgG ?_) | refine qG ?_))
    intro w hw
    refine W_cond rfl (fun h3 => ?_) (fun h3 => ?_)
    · have h3 : x ≠ y := of_decide_eq_true h3
      repeat (first | refine byW ?_ | (refine byV ?_; intro w hw))
      exact ⟨_, rfl, ret_b rfl (decide_eq_false fun e => h3 (by subst e; rw [hx] at hy; cases hy; rfl)).symm, hw⟩
    · have h3 : x = y := Classical.not_not.1 (of_decide_eq_false h3)
      repeat (first | refine byW ?_ | (refine byV ?_; intro w hw))
      exact ⟨μ - 1, by omega, k + 1, by omega, ⟨rfl, rfl, rfl, rfl, rfl, trivial⟩, eq_step hall hx hy h3, hw⟩
  · have hkn : ¬ k < n := by simpa using h2
    repeat (first | refine byW ?_ | (refine byV ?_; intro w hw))
    exact ⟨_, rfl, ret_b rfl (decide_eq_true (eq_of_all (by omega) (by omega) hall)).symm, hw⟩⟩
instance pg_eq_link {Γ : Gho} {v v2 : Value} {xs ys : List LinkT} [hr : SlC Γ v 3 (xs.map enc)] [hr2 : SlC Γ v2 3 (ys.map enc)] : PG Tryz.prog Γ 91 [v, v2] (.bool (decide (xs = ys))) := ⟨fun S w hw => by
  have hr := hr.h
  have hr2 := hr2.h
  obtain ⟨a, n, c, rfl, hn, hnc, hc⟩ := hr.shape
  obtain ⟨a', n', c', rfl, hn', hnc', hc'⟩ := hr2.shape
  simp only [List.length_map] at hn hn'
  refine calls_of_W Tryz.func91 rfl rfl ?_
  repeat (first | refine byW ?_ | (refine byV ?_; intro w hw))
  refine W_cond rfl (fun h => ?_) (fun h => ?_)
  · have h : n ≠ n' := by simp at h; omega
    repeat (first | refine byW ?_ | (refine byV ?_; intro w hw))
    exact ⟨_, rfl, ret_b rfl (decide_eq_false fun e => h (by rw [hn, hn', e])).symm, hw⟩
  have h : n = n' := by simp at h; omega
  repeat (first | refine byW ?_ | (refine byV ?_; intro w hw))
  refine W_loop (fun μ ρ w => ∃ (k : Nat), μ + k = n ∧ Has ρ [(0, .slice a n c), (1, .slice a' n' c'), (11, .slice a n c), (12, .int .i64 n), (13, .int .i64 k)] ∧ (∀ (i : Nat) (x y : LinkT), i < k → xs[i]? = some x → ys[i]? = some y → x = y) ∧ Wd Γ S w) n ⟨0, by omega, ⟨rfl, rfl, ?_, rfl, rfl, trivial⟩, fun i x y h => by omega, hw⟩ ?_
  · rfl
  clear hw
  rintro μ ρ w ⟨k, hk, hρ, hall, hw⟩
  rw [hρ.eq]
  repeat (first | refine byW ?_ | (refine byV ?_; intro w hw))
  refine W_cond rfl (fun h2 => ?_) (fun h2 => ?_)
  · have hkn : k < n := by simpa using h2
    obtain ⟨x, hx⟩ := get_lt (l := xs) (k := k) (by omega)
    obtain ⟨y, hy⟩ := get_lt (l := ys) (k := k) (by omega)
    repeat (first | refine byW ?_ | (refine byV ?_; intro w hw))
    refine W_quiet (by kernel_rfl) (by kernel_rfl) hw ?_
    repeat (first | refine Q_nil ?_ | (apply Q_plain; first | (apply Q_go; first | refine qP ?_ | refine qPg ?_) | refine qY ?_) | (apply Q_guarded; first | (apply Q_go; first | refine qPG ?_ | refine qPgG ?_) | refine qG ?_))
    intro w hw
    refine W_cond rfl (fun h3 => ?_) (fun h3 => ?_)
    · have h3 : x ≠ y := of_decide_eq_true h3
      repeat (first | refine byW ?_ | (refine byV ?_; intro w hw))
      exact ⟨_, rfl, ret_b rfl (decide_eq_false fun e => h3 (by subst e; rw [hx] at hy; cases hy; rfl)).symm, hw⟩
    · have h3 : x = y := Classical.not_not.1 (of_decide_eq_false h3)
      repeat (first | refine byW ?_ | (refine byV ?_; intro w hw))
      exact ⟨μ - 1, by omega, k + 1, by omega, ⟨rfl, rfl, rfl, rfl, rfl, trivial⟩, eq_step hall hx hy h3, hw⟩
  · have hkn : ¬ k < n := by simpa using h2
    repeat (first | refine byW ?_ | (refine byV ?_; intro w hw))
    exact ⟨_, rfl, ret_b rfl (decide_eq_true (eq_of_all (by omega) (by omega) hall)).symm, hw⟩⟩
instance pg_eq_mem {Γ : Gho} {v v2 : Value} {xs ys : List MemT} [hr : SlC Γ v 5 (xs.map enc)] [hr2 : SlC Γ v2 5 (ys.map enc)] : PG Tryz.prog Γ 92 [v, v2] (.bool (decide (xs = ys))) := ⟨fun S w hw => by
  have hr := hr.h
  have hr2 := hr2.h
  obtain ⟨a, n, c, rfl, hn, hnc, hc⟩ := hr.shape
  obtain ⟨a', n', c', rfl, hn', hnc', hc'⟩ := hr2.shape
  simp only [List.length_map] at hn hn'
  refine calls_of_W Tryz.func92 rfl rfl ?_
  repeat (first | refine byW ?_ | (refine byV ?_; intro w hw))
  refine W_cond rfl (fun h => ?_) (fun h => ?_)
  · have h : n ≠ n' := by simp at h; omega
    repeat (first | refine byW ?_ | (refine byV ?_; intro w hw))
    exact ⟨_, rfl, ret_b rfl (decide_eq_false fun e => h (by rw [hn, hn', e])).symm, hw⟩
  have h : n = n' := by simp at h; omega
  repeat (first | refine byW ?_ | (refine byV ?_; intro w hw))
  refine W_loop (fun μ ρ w => ∃ (k : Nat), μ + k = n ∧ Has ρ [(0, .slice a n c), (1, .slice a' n' c'), (11, .slice a n c), (12, .int .i64 n), (13, .int .i64 k)] ∧ (∀ (i : Nat) (x y : MemT), i < k → xs[i]? = some x → ys[i]? = some y → x = y) ∧ Wd Γ S w) n ⟨0, by omega, ⟨rfl, rfl, ?_, rfl, rfl, trivial⟩, fun i x y h => by omega, hw⟩ ?_
  · rfl
  clear hw
  rintro μ ρ w ⟨k, hk, hρ, hall, hw⟩
  rw [hρ.eq]
  repeat (first | refine byW ?_ | (refine byV ?_; intro w hw))
  refine W_cond rfl (fun h2 => ?_) (fun h2 => ?_)
  · have hkn : k < n := by simpa using h2
    obtain ⟨x, hx⟩ := get_lt (l := xs) (k := k) (by omega)
    obtain ⟨y, hy⟩ := get_lt (l := ys) (k := k) (by omega)
    repeat (first | refine byW ?_ | (refine byV ?_; intro w hw))
    refine W_quiet (by kernel_rfl) (by kernel_rfl) hw ?_
    repeat (first | refine Q_nil ?_ | (apply Q_plain; first | (apply Q_go; first | refine qP ?_ | refine qPg ?_) | refine qY ?_) | (apply Q_guarded; first | (apply Q_go; first | refine qPG ?_ | refine qPgG ?_) | refine qG ?_))
    intro w hw
    refine W_cond rfl (fun h3 => ?_) (fun h3 => ?_)
    · have h3 : x ≠ y := of_decide_eq_true h3
      repeat (first | refine byW ?_ | (refine byV ?_; intro w hw))
      exact ⟨_, rfl, ret_b rfl (decide_eq_false fun e => h3 (by subst e; rw [hx] at hy; cases hy; rfl)).symm, hw⟩
    · have h3 : x = y := Classical.not_not.1 (of_decide_eq_false h3)
      repeat (first | refine byW ?_ | (refine byV ?_; intro w hw))
      exact ⟨μ - 1, by omega, k + 1, by omega, ⟨rfl, rfl, rfl, rfl, rfl, trivial⟩, eq_step hall hx hy h3, hw⟩
  · have hkn : ¬ k < n := by simpa using h2
    repeat (first | refine byW ?_ | (refine byV ?_; intro w hw))
    exact ⟨_, rfl, ret_b rfl (decide_eq_true (eq_of_all (by omega) (by omega) hall)).symm, hw⟩⟩
instance pg_eq_dev {Γ : Gho} {v v2 : Value} {xs ys : List DevT} [hr : SlC Γ v 5 (xs.map enc)] [hr2 : SlC Γ v2 5 (ys.map enc)] : PG Tryz.prog Γ 93 [v, v2] (.bool (decide (xs = ys))) := ⟨fun S w hw => by
  have hr := hr.h
  have hr2 := hr2.h
  obtain ⟨a, n, c, rfl, hn, hnc, hc⟩ := hr.shape
  obtain ⟨a', n', c', rfl, hn', hnc', hc'⟩ := hr2.shape
  simp only [List.length_map] at hn hn'
  refine calls_of_W Tryz.func93 rfl rfl ?_
  repeat (first | refine byW ?_ | (refine byV ?_; intro w hw))
  refine W_cond rfl (fun h => ?_) (fun h => ?_)
  · have h : n ≠ n' := by simp at h; omega
    repeat (first | refine byW ?_ | (refine byV ?_; intro w hw))
    exact ⟨_, rfl, ret_b rfl (decide_eq_false fun e => h (by rw [hn, hn', e])).symm, hw⟩
  have h : n = n' := by simp at h; omega
  repeat (first | refine byW ?_ | (refine byV ?_; intro w hw))
  refine W_loop (fun μ ρ w => ∃ (k : Nat), μ + k = n ∧ Has ρ [(0, .slice a n c), (1, .slice a' n' c'), (11, .slice a n c), (12, .int .i64 n), (13, .int .i64 k)] ∧ (∀ (i : Nat) (x y : DevT), i < k → xs[i]? = some x → ys[i]? = some y → x = y) ∧ Wd Γ S w) n ⟨0, by omega, ⟨rfl, rfl, ?_, rfl, rfl, trivial⟩, fun i x y h => by omega, hw⟩ ?_
  · rfl
  clear hw
  rintro μ ρ w ⟨k, hk, hρ, hall, hw⟩
  rw [hρ.eq]
  repeat (first | refine byW ?_ | (refine byV ?_; intro w hw))
  refine W_cond rfl (fun h2 => ?_) (fun h2 => ?_)
  · have hkn : k < n := by simpa using h2
    obtain ⟨x, hx⟩ := get_lt (l := xs) (k := k) (by omega)
    obtain ⟨y, hy⟩ := get_lt (l := ys) (k := k) (by omega)
    repeat (first | refine byW ?_ | (refine byV ?_; intro w hw))
    refine W_quiet (by kernel_rfl) (by kernel_rfl) hw ?_
    repeat (first | refine Q_nil ?_ | (apply Q_plain; first | (apply Q_go; first | refine qP ?_ | refine qPg ?_) | refine qY ?_) | (apply Q_guarded; first | (apply Q_go; first | refine qPG ?_ | refine qPgG ?_) | refine qG ?_))
    intro w hw
    refine W_cond rfl (fun h3 => ?_) (fun h3 => ?_)
    · have h3 : x ≠ y := of_decide_eq_true h3
      repeat (first | refine byW ?_ | (refine byV ?_; intro w hw))
      exact ⟨_, rfl, ret_b rfl (decide_eq_false fun e => h3 (by subst e; rw [hx] at hy; cases hy; rfl)).symm, hw⟩
    · have h3 : x = y := Classical.not_not.1 (of_decide_eq_false h3)
      repeat (first | refine byW ?_ | (refine byV ?_; intro w hw))
      exact ⟨μ - 1, by omega, k + 1, by omega, ⟨rfl, rfl, rfl, rfl, rfl, trivial⟩, eq_step hall hx hy h3, hw⟩
  · have hkn : ¬ k < n := by simpa using h2
    repeat (first | refine byW ?_ | (refine byV ?_; intro w hw))
    exact ⟨_, rfl, ret_b rfl (decide_eq_true (eq_of_all (by omega) (by omega) hall)).symm, hw⟩⟩
theorem pg_same {Γ : Gho} {x y : CacheH} (hx : COk Γ x) (hy : COk Γ y) : PG Tryz.prog Γ 87 [.agg (cC x).toArray, .agg (cC y).toArray] (.bool (decide (x.T = y.T))) := ⟨fun S w hw => by
  haveI : SlC Γ (.slice x.A x.N x.C) 1 (intRows x.Cores) := ⟨hx⟩
  haveI : SlC Γ (.slice y.A y.N y.C) 1 (intRows y.Cores) := ⟨hy⟩
  refine calls_of_W Tryz.func87 rfl rfl ?_
  repeat (first | refine byW ?_ | (refine byV ?_; intro w hw))
  refine lBox ?_
  intro b2 w hw
  refine lBox ?_
  intro b3 w hw
  have hw : Wd Γ (.blk b3 (.cells (cC y).toArray 79) :: .blk b2 (.cells (cC x).toArray 79) :: S) w := hw
  repeat (first | refine byW ?_ | (refine byV ?_; intro w hw))
  refine ⟨_, rfl, ret_b rfl ?_, hw.drop.drop⟩
  rw [Bool.eq_iff_iff]
  simp only [Bool.and_eq_true, decide_eq_true_eq]
  obtain ⟨n1, l1, i1, s1, _, _, _, c1⟩ := x
  obtain ⟨n2, l2, i2, s2, _, _, _, c2⟩ := y
  simp only [CacheH.T, CacheT.mk.injEq]
  constructor
  · rintro ⟨⟨⟨⟨a, b⟩, c⟩, d⟩, e⟩; exact ⟨a, b, c, d, e⟩
  · rintro ⟨a, b, c, d, e⟩; exact ⟨⟨⟨⟨a, b⟩, c⟩, d⟩, e⟩⟩
theorem EqualFunc_any {Γ : Gho} {S : List Res} {w : World} {a a' : Option Addr} {n c n' c' : Nat} {xs ys : List CacheH} (hr : RepS Γ (.slice a n c) 5 (xs.map cC)) (hr2 : RepS Γ (.slice a' n' c') 5 (ys.map cC)) (hx : ∀ c ∈ xs, COk Γ c) (hy : ∀ c ∈ ys, COk Γ c) (hw : Wd Γ S w) :
    Calls Tryz.prog 90 #[.slice a n c, .slice a' n' c', .func (.func 87) #[] #[]] w fun e w' => e = .returned (.bool (decide (xs.map CacheH.T = ys.map CacheH.T))) ∧ Wd Γ S w' := by
  obtain ⟨hn, hnc, hc⟩ := rep_facts hr
  obtain ⟨hn', hnc', hc'⟩ := rep_facts hr2
  simp only [List.length_map] at hn hn'
  refine calls_of_W Tryz.func90 rfl rfl ?_
  repeat (first | refine byW ?_ | (refine byV ?_; intro w hw))
  refine W_cond rfl (fun h => ?_) (fun h => ?_)
  · have h : n ≠ n' := by simp at h; omega
    repeat (first | refine byW ?_ | (refine byV ?_; intro w hw))
    refine ⟨_, rfl, ret_b rfl (decide_eq_false fun e => h ?_).symm, hw⟩
    have := congrArg List.length e
    simp at this; omega
  have h : n = n' := by simp at h; omega
  repeat (first | refine byW ?_ | (refine byV ?_; intro w hw))
  refine W_loop (fun μ ρ w => ∃ (k : Nat), μ + k = n ∧ Has ρ [(1, .slice a' n' c'), (2, .func (.func 87) #[] #[]), (15, .slice a n c), (16, .int .i64 n), (17, .int .i64 k)] ∧ (∀ (i : Nat) (x y : CacheT), i < k → (xs.map CacheH.T)[i]? = some x → (ys.map CacheH.T)[i]? = some y → x = y) ∧ Wd Γ S w) n ⟨0, by omega, ⟨rfl, rfl, rfl, rfl, rfl, trivial⟩, fun i x y h => by omega, hw⟩ ?_
  clear hw
  rintro μ ρ w ⟨k, hk, hρ, hall, hw⟩
  rw [hρ.eq]
  repeat (first | refine byW ?_ | (refine byV ?_; intro w hw))
  refine W_cond rfl (fun h2 => ?_) (fun h2 => ?_)
  · have hkn : k < n := by simpa using h2
    obtain ⟨x, hx1⟩ := get_lt (l := xs) (k := k) (by omega)
    obtain ⟨y, hy1⟩ := get_lt (l := ys) (k := k) (by omega)
    have hx2 : (xs.map CacheH.T)[k]? = some x.T := by simp [hx1]
    have hy2 : (ys.map CacheH.T)[k]? = some y.T := by simp [hy1]
    repeat (first | refine byW ?_ | (refine byV ?_; intro w hw))
    refine lAlloc ?_
    intro b8 w hw
    repeat (first | refine byW ?_ | (refine byV ?_; intro w hw))
    refine lStore ?_
    intro w hw
    have hw : Wd Γ (.blk b8 (.cells (cC x).toArray 79) :: S) w := hw
    repeat (first | refine byW ?_ | (refine byV ?_; intro w hw))
    refine lAlloc ?_
    intro b9 w hw
    refine lStore ?_
    intro w hw
    have hw : Wd Γ (.blk b9 (.cells (cC y).toArray 79) :: .blk b8 (.cells (cC x).toArray 79) :: S) w := hw
    repeat (first | refine byW ?_ | (refine byV ?_; intro w hw))
    refine lPgv (pg_same (hx x (List.mem_of_getElem? hx1)) (hy y (List.mem_of_getElem? hy1))) ?_
    clear hw
    intro w hw
    repeat (first | refine byW ?_ | (refine byV ?_; intro w hw))
    refine W_cond rfl (fun h3 => ?_) (fun h3 => ?_)
    · have h3 : x.T ≠ y.T := by simpa using h3
      repeat (first | refine byW ?_ | (refine byV ?_; intro w hw))
      exact ⟨_, rfl, ret_b rfl (decide_eq_false fun e => h3 (by rw [e, hy2] at hx2; exact (Option.some.inj hx2).symm)).symm, hw.drop.drop⟩
    · have h3 : x.T = y.T := by simpa using h3
      repeat (first | refine byW ?_ | (refine byV ?_; intro w hw))
      exact ⟨μ - 1, by omega, k + 1, by omega, ⟨rfl, rfl, rfl, rfl, rfl, trivial⟩, eq_step hall hx2 hy2 h3, hw.drop.drop⟩
  · have hkn : ¬ k < n := by simpa using h2
    repeat (first | refine byW ?_ | (refine byV ?_; intro w hw))
    exact ⟨_, rfl, ret_b rfl (decide_eq_true (eq_of_all (by simp; omega) (by simp; omega) hall)).symm, hw⟩
instance pg_Equal {Γ : Gho} {u u' : Value} {H G : HwT} [hh : HwR Γ u H] [hg : HwR Γ u' G] : PG Tryz.prog Γ 23 [u, u'] (.bool (decide (H = G))) := ⟨fun S w hw => by
  obtain ⟨a1, n1, c1, a2, n2, c2, a3, n3, c3, a4, n4, c4, a5, n5, c5, cs, rfl, hcs, hok, hsz, r1, r2, r3, r4, r5⟩ := hh.h
  obtain ⟨A1, N1, C1, A2, N2, C2, A3, N3, C3, A4, N4, C4, A5, N5, C5, cs', rfl, hcs', hok', hsz', R1, R2, R3, R4, R5⟩ := hg.h
  haveI := SlC.mk r1
  haveI := SlC.mk r3
  haveI := SlC.mk r4
  haveI := SlC.mk r5
  haveI := SlC.mk R1
  haveI := SlC.mk R3
  haveI := SlC.mk R4
  haveI := SlC.mk R5
  refine calls_of_W Tryz.func23 rfl rfl ?_
  repeat (first | refine byW ?_ | (refine byV ?_; intro w hw))
  refine lBox ?_
  intro b2 w hw
  refine lBox ?_
  intro b3 w hw
  have hw : Wd Γ (.blk b3 (hwC G A1 N1 C1 A2 N2 C2 A3 N3 C3 A4 N4 C4 A5 N5 C5) :: .blk b2 (hwC H a1 n1 c1 a2 n2 c2 a3 n3 c3 a4 n4 c4 a5 n5 c5) :: S) w := hw
  repeat (first | refine byW ?_ | (refine byV ?_; intro w hw))
  refine lCallGd (fun _ => EqualFunc_any r2 R2 hok hok' hw) ?_
  clear hw
  intro w hw
  repeat (first | refine byW ?_ | (refine byV ?_; intro w hw))
  refine ⟨_, rfl, ret_b rfl ?_, hw.drop.drop⟩
  rw [hcs, hcs', Bool.eq_iff_iff]
  simp only [Bool.and_eq_true, decide_eq_true_eq]
  cases H; cases G
  simp only [HwT.mk.injEq]
  constructor
  · rintro ⟨⟨⟨⟨⟨a, b⟩, c⟩, d⟩, e⟩, f⟩; exact ⟨a, b, c, d, e, f⟩
  · rintro ⟨a, b, c, d, e, f⟩; exact ⟨⟨⟨⟨⟨a, b⟩, c⟩, d⟩, e⟩, f⟩⟩
end Go.Proofs.YtimbobmmijgkiaaGreatDoor
end
/- The sanity check of the chapter: its examples. -/
section
open Go Mk
namespace Go.Proofs.YtimbobmmijgkiaaGreatDoor
set_option maxHeartbeats 8000000
attribute [local irreducible] Calls

theorem HwOut.freeze {Γ : Gho} {S : List Res} {w : World} {H : HwT} {u : Value} (h : HwOut Γ H S u w) (hsz : HwSz H) : ∃ Γ', Γ.le Γ' ∧ HwR Γ' u H ∧ Wd Γ' S w := by
  obtain ⟨v1, v2, v3, v4, v5, cs, hcs, hok, rfl, hw⟩ := h
  obtain ⟨a1, n1, c1, rfl, -, -, -⟩ := hw.own_shape (i := 0) rfl
  obtain ⟨a2, n2, c2, rfl, -, -, -⟩ := hw.own_shape (i := 1) rfl
  obtain ⟨a3, n3, c3, rfl, -, -, -⟩ := hw.own_shape (i := 2) rfl
  obtain ⟨a4, n4, c4, rfl, -, -, -⟩ := hw.own_shape (i := 3) rfl
  obtain ⟨a5, n5, c5, rfl, -, -, -⟩ := hw.own_shape (i := 4) rfl
  obtain ⟨Γ1, e1, r1, hw⟩ := hw.freeze
  obtain ⟨Γ2, e2, r2, hw⟩ := hw.freeze
  obtain ⟨Γ3, e3, r3, hw⟩ := hw.freeze
  obtain ⟨Γ4, e4, r4, hw⟩ := hw.freeze
  obtain ⟨Γ5, e5, r5, hw⟩ := hw.freeze
  have f4 := e5
  have f3 := e4.trans f4
  have f2 := e3.trans f3
  have f1 := e2.trans f2
  exact ⟨Γ5, e1.trans f1, ⟨_, _, _, _, _, _, _, _, _, _, _, _, _, _, _, cs, rfl, hcs, fun c hc => (hok c hc).mono (e1.trans f1), hsz, r1.mono f1, r2.mono f2, r3.mono f3, r4.mono f4, r5⟩, hw⟩
def text1 : ByteArray := ⟨#[109, 97, 99, 104, 105, 110, 101, 32, 34, 109, 34, 32, 123, 32, 99, 111, 114, 101, 32, 48, 32, 123, 32, 119, 105, 100, 116, 104, 32, 51, 50, 59, 32, 110, 111, 100, 101, 32, 48, 59, 32, 115, 112, 101, 101, 100, 32, 49, 59, 32, 125, 32, 125]⟩
def text2 : ByteArray := ⟨#[109, 97, 99, 104, 105, 110, 101, 32, 34, 109, 34, 32, 123, 32, 99, 111, 114, 101, 32, 48, 32, 123, 32, 119, 105, 100, 116, 104, 32, 51, 51, 59, 32, 110, 111, 100, 101, 32, 48, 59, 32, 115, 112, 101, 101, 100, 32, 49, 59, 32, 125, 32, 125]⟩
def hw1 : HwT := ⟨⟨#[109]⟩, [⟨0, 32, 0, 1⟩], [], [], [], []⟩
def hw2 : HwT := ⟨⟨#[109]⟩, [⟨0, 33, 0, 1⟩], [], [], [], []⟩
theorem parse1 : parseS text1 = (hw1, ⟨0, 0⟩, 0) := by decide +kernel
theorem parse2 : parseS text2 = (hw2, ⟨0, 0⟩, 0) := by decide +kernel
theorem valid1 : validS hw1 = 0 := by
  have h1 : namesB hw1 = true := by decide +kernel
  have h2 : countsB hw1 = true := by decide +kernel
  have h3 : (coresRB hw1 && regionsRB hw1) = true := by decide +kernel
  have h4 : alignRB hw1 = true := by decide +kernel
  have h5 : uniqueB hw1 = true := by decide +kernel
  have h6 : knownB hw1 = true := by decide +kernel
  have h7 : hierB hw1 = true := decP_t ⟨fun c hc => (by cases hc), fun i k a b ha => (by cases ha)⟩
  have h8 : disjB hw1 = true := decP_t fun i k a b _ ha => by simp [hw1, regs] at ha
  have h9 : connB hw1 = true := decP_t fun n hn => by
    simp [hw1, usedN] at hn; subst hn; exact .refl
  simp [validS, h1, h2, h3, h4, h5, h6, h7, h8, h9]
theorem valid2 : validS hw2 = 6 := by
  have h1 : namesB hw2 = true := by decide +kernel
  have h2 : countsB hw2 = true := by decide +kernel
  have h3 : (coresRB hw2 && regionsRB hw2) = false := by decide +kernel
  simp [validS, h1, h2, h3]
theorem sz1 : HwSz hw1 := by unfold HwSz maxS; decide
theorem sz2 : HwSz hw2 := by unfold HwSz maxS; decide
theorem Parse_known {Γ : Gho} {S : List Res} {w : World} {s : ByteArray} {H : HwT} {p : PosT} {er : Int} (hs : s.size ≤ maxS0) (hp : parseS s = (H, p, er)) (hsz : HwSz H) (hw : Wd Γ S w) :
    Calls Tryz.prog 9 #[.string s] w fun r w' => ∃ Γ' u, Γ.le Γ' ∧ r = .returned (.tuple #[u, .agg #[.int .i64 p.Line, .int .i64 p.Col], .int .i64 er]) ∧ HwR Γ' u H ∧ Wd Γ' S w' := by
  refine (Parse_any s hs hw).mono ?_
  rintro r w ⟨Γ1, u, hle1, rfl, ho⟩
  rw [hp] at ho ⊢
  obtain ⟨Γ2, hle2, hR, hw⟩ := ho.freeze hsz
  exact ⟨Γ2, u, hle1.trans hle2, rfl, hR, hw⟩
theorem awake_any {Γ : Gho} {S : List Res} {w : World} (hw : Wd Γ S w) : Calls Tryz.prog 7 #[] w fun e w' => ∃ Γ', Γ.le Γ' ∧ e = .returned (.bool true) ∧ Wd Γ' S w' := by
  refine calls_of_W Tryz.func7 rfl rfl ?_
  repeat (first | refine byW ?_ | (refine byV ?_; intro w hw))
  refine lCall ?_
  refine (Parse_known (by decide) parse1 sz1 hw).mono ?_
  rintro r w ⟨Γ2, u, hle2, rfl, hR1, hw⟩
  refine ⟨_, rfl, ?_⟩
  obtain ⟨a1, n1, c1, a2, n2, c2, a3, n3, c3, a4, n4, c4, a5, n5, c5, cs, rfl, -, -, -, r1, -⟩ := hR1.h
  repeat (first | refine byW ?_ | (refine byV ?_; intro w hw))
  refine lAlloc ?_
  intro b1 w hw
  refine lAlloc ?_
  intro b2 w hw
  refine lStore ?_
  intro w hw
  refine lStore ?_
  intro w hw
  repeat (first | refine byW ?_ | (refine byV ?_; intro w hw))
  have hw : Wd Γ2 (.blk b2 (.cells (enc (⟨0, 0⟩ : PosT)).toArray 25) :: .blk b1 (hwC hw1 a1 n1 c1 a2 n2 c2 a3 n3 c3 a4 n4 c4 a5 n5 c5) :: S) w := hw
  refine lCall ?_
  refine (Parse_known (by decide) parse2 sz2 hw).mono ?_
  rintro r w ⟨Γ4, u2, hle4, rfl, hR2, hw⟩
  refine ⟨_, rfl, ?_⟩
  obtain ⟨A1, N1, C1, A2, N2, C2, A3, N3, C3, A4, N4, C4, A5, N5, C5, cs2, rfl, -⟩ := hR2.h
  haveI := hR1.mono hle4
  obtain ⟨hn1, -, -⟩ := rep_facts r1
  repeat (first | refine byW ?_ | (refine byV ?_; intro w hw))
  refine lAlloc ?_
  intro b4 w hw
  refine lAlloc ?_
  intro b5 w hw
  refine lStore ?_
  intro w hw
  refine lStore ?_
  intro w hw
  have hw : Wd Γ4 (.blk b5 (.cells (enc (⟨0, 0⟩ : PosT)).toArray 25) :: .blk b4 (hwC hw2 A1 N1 C1 A2 N2 C2 A3 N3 C3 A4 N4 C4 A5 N5 C5) :: .blk b2 (.cells (enc (⟨0, 0⟩ : PosT)).toArray 25) :: .blk b1 (hwC hw1 a1 n1 c1 a2 n2 c2 a3 n3 c3 a4 n4 c4 a5 n5 c5) :: S) w := hw
  repeat (first | refine byW ?_ | (refine byV ?_; intro w hw))
  refine ⟨_, rfl, Γ4, hle2.trans hle4, ret_b rfl ?_, hw.ds [0, 0, 0, 0]⟩
  have e1 : ¬ hw1 = hw2 := by decide +kernel
  have e2 : (n1 : Int) = 1 := by simp [hw1] at hn1; omega
  simp [valid1, valid2, e1, e2]
end Go.Proofs.YtimbobmmijgkiaaGreatDoor
end
/- The reference's SameInts and Equal (printed by a program). -/
section
open Go Mk
namespace Go.Proofs.YtimbobmmijgkiaaGreatDoor
set_option maxHeartbeats 16000000
attribute [local irreducible] Calls

/-- A description in memory that is never changed again, its names of any length. -/
class HwQ (Γ : Gho) (u : Value) (H : outParam HwT) : Prop where
  h : ∃ (a1 : Option Addr) (n1 c1 : Nat) (a2 : Option Addr) (n2 c2 : Nat) (a3 : Option Addr) (n3 c3 : Nat) (a4 : Option Addr) (n4 c4 : Nat) (a5 : Option Addr) (n5 c5 : Nat) (cs : List CacheH),
    u = .agg #[.string H.Name, .slice a1 n1 c1, .slice a2 n2 c2, .slice a3 n3 c3, .slice a4 n4 c4, .slice a5 n5 c5] ∧ cs.map CacheH.T = H.Caches ∧ (∀ c ∈ cs, COk Γ c) ∧
    RepS Γ (.slice a1 n1 c1) 4 (H.Cores.map enc) ∧ RepS Γ (.slice a2 n2 c2) 5 (cs.map cC) ∧ RepS Γ (.slice a3 n3 c3) 3 (H.Links.map enc) ∧ RepS Γ (.slice a4 n4 c4) 5 (H.Mems.map enc) ∧ RepS Γ (.slice a5 n5 c5) 5 (H.Devs.map enc)
instance hwq_r {Γ : Gho} {u : Value} {H : HwT} [hh : HwR Γ u H] : HwQ Γ u H := by
  obtain ⟨a1, n1, c1, a2, n2, c2, a3, n3, c3, a4, n4, c4, a5, n5, c5, cs, h1, h2, h3, -, r⟩ := hh.h
  exact ⟨a1, n1, c1, a2, n2, c2, a3, n3, c3, a4, n4, c4, a5, n5, c5, cs, h1, h2, h3, r⟩
theorem HwQ.mono {Γ Γ' : Gho} {u : Value} {H : HwT} (hh : HwQ Γ u H) (hle : Γ.le Γ') : HwQ Γ' u H := by
  obtain ⟨a1, n1, c1, a2, n2, c2, a3, n3, c3, a4, n4, c4, a5, n5, c5, cs, h1, h2, h3, r1, r2, r3, r4, r5⟩ := hh.h
  exact ⟨a1, n1, c1, a2, n2, c2, a3, n3, c3, a4, n4, c4, a5, n5, c5, cs, h1, h2, fun c hc => RepS.mono (h3 c hc) hle, r1.mono hle, r2.mono hle, r3.mono hle, r4.mono hle, r5.mono hle⟩
theorem HwOut.freezeQ {Γ : Gho} {S : List Res} {w : World} {H : HwT} {u : Value} (h : HwOut Γ H S u w) : ∃ Γ', Γ.le Γ' ∧ HwQ Γ' u H ∧ Wd Γ' S w := by
  obtain ⟨v1, v2, v3, v4, v5, cs, hcs, hok, rfl, hw⟩ := h
  obtain ⟨a1, n1, c1, rfl, -, -, -⟩ := hw.own_shape (i := 0) rfl
  obtain ⟨a2, n2, c2, rfl, -, -, -⟩ := hw.own_shape (i := 1) rfl
  obtain ⟨a3, n3, c3, rfl, -, -, -⟩ := hw.own_shape (i := 2) rfl
  obtain ⟨a4, n4, c4, rfl, -, -, -⟩ := hw.own_shape (i := 3) rfl
  obtain ⟨a5, n5, c5, rfl, -, -, -⟩ := hw.own_shape (i := 4) rfl
  obtain ⟨Γ1, e1, r1, hw⟩ := hw.freeze
  obtain ⟨Γ2, e2, r2, hw⟩ := hw.freeze
  obtain ⟨Γ3, e3, r3, hw⟩ := hw.freeze
  obtain ⟨Γ4, e4, r4, hw⟩ := hw.freeze
  obtain ⟨Γ5, e5, r5, hw⟩ := hw.freeze
  have f4 := e5
  have f3 := e4.trans f4
  have f2 := e3.trans f3
  have f1 := e2.trans f2
  exact ⟨Γ5, e1.trans f1, ⟨a1, n1, c1, a2, n2, c2, a3, n3, c3, a4, n4, c4, a5, n5, c5, cs, rfl, hcs, fun c hc => RepS.mono (hok c hc) (e1.trans f1), r1.mono f1, r2.mono f2, r3.mono f3, r4.mono f4, r5⟩, hw⟩
instance pg_SameInts {Γ : Gho} {v v2 : Value} {xs ys : List Int} [hr : SlC Γ v 1 (intRows xs)] [hr2 : SlC Γ v2 1 (intRows ys)] : PG Tryz.prog Γ 32 [v, v2] (.bool (decide (xs = ys))) := ⟨fun S w hw => by
  have hr := hr.h
  have hr2 := hr2.h
  obtain ⟨a, n, c, rfl, hn, hnc, hc⟩ := hr.shape
  obtain ⟨a', n', c', rfl, hn', hnc', hc'⟩ := hr2.shape
  simp only [intRows, List.length_map] at hn hn'
  refine calls_of_W Tryz.func32 rfl rfl ?_
  repeat (first | refine byW ?_ | (refine byV ?_; intro w hw))
  refine W_cond rfl (fun h => ?_) (fun h => ?_)
  · have h : n ≠ n' := by simp at h; omega
    repeat (first | refine byW ?_ | (refine byV ?_; intro w hw))
    exact ⟨_, rfl, ret_b rfl (decide_eq_false fun e => h (by rw [hn, hn', e])).symm, hw⟩
  have h : n = n' := by simp at h; omega
  repeat (first | refine byW ?_ | (refine byV ?_; intro w hw))
  refine W_loop (fun μ ρ w => ∃ (k : Nat), μ + k = n ∧ Has ρ [(0, .slice a n c), (1, .slice a' n' c'), (5, .int .i64 k)] ∧ (∀ (i : Nat) (x y : Int), i < k → xs[i]? = some x → ys[i]? = some y → x = y) ∧ Wd Γ S w) n ⟨0, by omega, ⟨rfl, rfl, rfl, trivial⟩, fun i x y hi => absurd hi (Nat.not_lt_zero i), hw⟩ ?_
  clear hw
  rintro μ ρ w ⟨k, hk, hρ, hall, hw⟩
  rw [hρ.eq]
  repeat (first | refine byW ?_ | (refine byV ?_; intro w hw))
  refine W_cond rfl (fun h2 => ?_) (fun h2 => ?_)
  · have hkn : k < n := by simpa using h2
    obtain ⟨x, hx⟩ := get_lt (l := xs) (k := k) (by omega)
    obtain ⟨y, hy⟩ := get_lt (l := ys) (k := k) (by omega)
    repeat (first | refine byW ?_ | (refine byV ?_; intro w hw))
    refine W_quiet (by kernel_rfl) (by kernel_rfl) hw ?_
    repeat (first | refine Q_nil ?_ | (apply Q_plain; first | (apply Q_go; first | refine qP ?_ | refine qPg ?_) | refine qY ?_) | (apply Q_guarded; first | (apply Q_go; first | refine qPG ?_ | refine qPgG ?_) | refine qG ?_))
    intro w hw
    refine W_cond rfl (fun h3 => ?_) (fun h3 => ?_)
    · have h3 : x ≠ y := of_decide_eq_true h3
      repeat (first | refine byW ?_ | (refine byV ?_; intro w hw))
      exact ⟨_, rfl, ret_b rfl (decide_eq_false fun e => h3 (by subst e; rw [hx] at hy; cases hy; rfl)).symm, hw⟩
    · have h3 : x = y := Classical.not_not.1 (of_decide_eq_false h3)
      repeat (first | refine byW ?_ | (refine byV ?_; intro w hw))
      exact ⟨μ - 1, by omega, k + 1, by omega, ⟨rfl, rfl, rfl, trivial⟩, eq_step hall hx hy h3, hw⟩
  · have hkn : ¬ k < n := by simpa using h2
    repeat (first | refine byW ?_ | (refine byV ?_; intro w hw))
    exact ⟨_, rfl, ret_b rfl (decide_eq_true (eq_of_all (by omega) (by omega) hall)).symm, hw⟩⟩
theorem cacheT_eq {x y : CacheT} (a : x.Name = y.Name) (b : x.Level = y.Level) (c : x.Line = y.Line) (d : x.Size = y.Size) (e : x.Cores = y.Cores) : x = y := by
  cases x; cases y
  simp only [CacheT.mk.injEq]
  exact ⟨a, b, c, d, e⟩
instance pg_REqual {Γ : Gho} {u u' : Value} {H G : HwT} [hh : HwQ Γ u H] [hg : HwQ Γ u' G] : PG Tryz.prog Γ 11 [u, u'] (.bool (decide (H = G))) := ⟨fun S w hw => by
  obtain ⟨a1, n1, c1, a2, n2, c2, a3, n3, c3, a4, n4, c4, a5, n5, c5, cs, rfl, hcs, hok, r1, r2, r3, r4, r5⟩ := hh.h
  obtain ⟨A1, N1, C1, A2, N2, C2, A3, N3, C3, A4, N4, C4, A5, N5, C5, cs', rfl, hcs', hok', R1, R2, R3, R4, R5⟩ := hg.h
  obtain ⟨hn1, hm1, hx1⟩ := rep_facts r1
  obtain ⟨HN1, HM1, HX1⟩ := rep_facts R1
  obtain ⟨hn2, hm2, hx2⟩ := rep_facts r2
  obtain ⟨HN2, HM2, HX2⟩ := rep_facts R2
  obtain ⟨hn3, hm3, hx3⟩ := rep_facts r3
  obtain ⟨HN3, HM3, HX3⟩ := rep_facts R3
  obtain ⟨hn4, hm4, hx4⟩ := rep_facts r4
  obtain ⟨HN4, HM4, HX4⟩ := rep_facts R4
  obtain ⟨hn5, hm5, hx5⟩ := rep_facts r5
  obtain ⟨HN5, HM5, HX5⟩ := rep_facts R5
  simp only [List.length_map] at hn1 hn2 hn3 hn4 hn5 HN1 HN2 HN3 HN4 HN5
  refine calls_of_W Tryz.func11 rfl rfl ?_
  repeat (first | refine byW ?_ | (refine byV ?_; intro w hw))
  refine lBox ?_
  intro b2 w hw
  refine lBox ?_
  intro b3 w hw
  have hw : Wd Γ (.blk b3 (.cells #[.string G.Name, .slice A1 N1 C1, .slice A2 N2 C2, .slice A3 N3 C3, .slice A4 N4 C4, .slice A5 N5 C5] 35) :: .blk b2 (.cells #[.string H.Name, .slice a1 n1 c1, .slice a2 n2 c2, .slice a3 n3 c3, .slice a4 n4 c4, .slice a5 n5 c5] 35) :: S) w := hw
  repeat (first | refine byW ?_ | (refine byV ?_; intro w hw))
  refine W_cond rfl (fun h => ?_) (fun h => ?_)
  · have hne : ¬ H = G := fun e => by
      subst e
      have q : (((((decide (H.Name ≠ H.Name) || decide ((n1 : Int) ≠ N1)) || decide ((n2 : Int) ≠ N2)) || decide ((n3 : Int) ≠ N3)) || decide ((n4 : Int) ≠ N4)) || decide ((n5 : Int) ≠ N5)) = true := h
      have q2 : cs.length = cs'.length := by have := congrArg List.length (hcs.trans hcs'.symm); simpa using this
      simp only [Bool.or_eq_true, decide_eq_true_eq] at q
      rcases q with ((((q | q) | q) | q) | q) | q
      · exact q rfl
      all_goals exact q (by omega)
    repeat (first | refine byW ?_ | (refine byV ?_; intro w hw))
    exact ⟨_, rfl, ret_b rfl (decide_eq_false hne).symm, hw.drop.drop⟩
  have hq : (((((decide (H.Name ≠ G.Name) || decide ((n1 : Int) ≠ N1)) || decide ((n2 : Int) ≠ N2)) || decide ((n3 : Int) ≠ N3)) || decide ((n4 : Int) ≠ N4)) || decide ((n5 : Int) ≠ N5)) = false := h
  simp only [Bool.or_eq_false_iff, decide_eq_false_iff_not, Classical.not_not] at hq
  obtain ⟨⟨⟨⟨⟨q0, q1⟩, q2⟩, q3⟩, q4⟩, q5⟩ := hq
  clear h
  repeat (first | refine byW ?_ | (refine byV ?_; intro w hw))
  refine W_cutB (fun ρ w => H.Cores = G.Cores ∧ Has ρ [(2, .pointer (some ⟨b2, 0, none⟩)), (3, .pointer (some ⟨b3, 0, none⟩))] ∧ Wd Γ (.blk b3 (.cells #[.string G.Name, .slice A1 N1 C1, .slice A2 N2 C2, .slice A3 N3 C3, .slice A4 N4 C4, .slice A5 N5 C5] 35) :: .blk b2 (.cells #[.string H.Name, .slice a1 n1 c1, .slice a2 n2 c2, .slice a3 n3 c3, .slice a4 n4 c4, .slice a5 n5 c5] 35) :: S) w) ?_ ?_
  · refine W_loop (fun μ ρ w => ∃ (k : Nat), μ + k = n1 ∧ Has ρ [(2, .pointer (some ⟨b2, 0, none⟩)), (3, .pointer (some ⟨b3, 0, none⟩)), (5, .int .i64 k)] ∧ (∀ (i : Nat) (x y : CoreT), i < k → H.Cores[i]? = some x → G.Cores[i]? = some y → x = y) ∧ Wd Γ (.blk b3 (.cells #[.string G.Name, .slice A1 N1 C1, .slice A2 N2 C2, .slice A3 N3 C3, .slice A4 N4 C4, .slice A5 N5 C5] 35) :: .blk b2 (.cells #[.string H.Name, .slice a1 n1 c1, .slice a2 n2 c2, .slice a3 n3 c3, .slice a4 n4 c4, .slice a5 n5 c5] 35) :: S) w) n1 ⟨0, by omega, ⟨rfl, rfl, rfl, trivial⟩, fun i x y hi => absurd hi (Nat.not_lt_zero i), hw⟩ ?_
    clear hw
    rintro μ ρ w ⟨k, hk, hρ, hall, hw⟩
    rw [hρ.eq]
    repeat (first | refine byW ?_ | (refine byV ?_; intro w hw))
    refine W_cond rfl (fun h2 => ?_) (fun h2 => ?_)
    · have hkn : k < n1 := by simpa using h2
      obtain ⟨x, hx⟩ := get_lt (l := H.Cores) (k := k) (by omega)
      obtain ⟨y, hy⟩ := get_lt (l := G.Cores) (k := k) (by omega)
      repeat (first | refine byW ?_ | (refine byV ?_; intro w hw))
      refine W_quiet (by kernel_rfl) (by kernel_rfl) hw ?_
      repeat (first | refine Q_nil ?_ | (apply Q_plain; first | (apply Q_go; first | refine qP ?_ | refine qPg ?_) | refine qY ?_) | (apply Q_guarded; first | (apply Q_go; first | refine qPG ?_ | refine qPgG ?_) | refine qG ?_))
      intro w hw
      refine W_cond rfl (fun h3 => ?_) (fun h3 => ?_)
      · have h3 : x ≠ y := of_decide_eq_true h3
        repeat (first | refine byW ?_ | (refine byV ?_; intro w hw))
        exact ⟨_, rfl, ret_b rfl (decide_eq_false fun e => h3 (by subst e; rw [hx] at hy; cases hy; rfl)).symm, hw.drop.drop⟩
      · have h3 : x = y := Classical.not_not.1 (of_decide_eq_false h3)
        repeat (first | refine byW ?_ | (refine byV ?_; intro w hw))
        exact ⟨μ - 1, by omega, k + 1, by omega, ⟨rfl, rfl, rfl, trivial⟩, eq_step hall hx hy h3, hw⟩
    · have hkn : ¬ k < n1 := by simpa using h2
      repeat (first | refine byW ?_ | (refine byV ?_; intro w hw))
      exact ⟨eq_of_all (by omega) (by omega) hall, ⟨rfl, rfl, trivial⟩, hw⟩
  clear hw
  rintro ρ w ⟨e1, hρ, hw⟩
  rw [hρ.eq]
  clear hρ
  repeat (first | refine byW ?_ | (refine byV ?_; intro w hw))
  refine W_cutB (fun ρ w => H.Caches = G.Caches ∧ Has ρ [(2, .pointer (some ⟨b2, 0, none⟩)), (3, .pointer (some ⟨b3, 0, none⟩))] ∧ Wd Γ (.blk b3 (.cells #[.string G.Name, .slice A1 N1 C1, .slice A2 N2 C2, .slice A3 N3 C3, .slice A4 N4 C4, .slice A5 N5 C5] 35) :: .blk b2 (.cells #[.string H.Name, .slice a1 n1 c1, .slice a2 n2 c2, .slice a3 n3 c3, .slice a4 n4 c4, .slice a5 n5 c5] 35) :: S) w) ?_ ?_
  · refine W_loop (fun μ ρ w => ∃ (k : Nat), μ + k = n2 ∧ Has ρ [(2, .pointer (some ⟨b2, 0, none⟩)), (3, .pointer (some ⟨b3, 0, none⟩)), (6, .int .i64 k)] ∧ (∀ (i : Nat) (x y : CacheT), i < k → (cs.map CacheH.T)[i]? = some x → (cs'.map CacheH.T)[i]? = some y → x = y) ∧ Wd Γ (.blk b3 (.cells #[.string G.Name, .slice A1 N1 C1, .slice A2 N2 C2, .slice A3 N3 C3, .slice A4 N4 C4, .slice A5 N5 C5] 35) :: .blk b2 (.cells #[.string H.Name, .slice a1 n1 c1, .slice a2 n2 c2, .slice a3 n3 c3, .slice a4 n4 c4, .slice a5 n5 c5] 35) :: S) w) n2 ⟨0, by omega, ⟨rfl, rfl, rfl, trivial⟩, fun i x y hi => absurd hi (Nat.not_lt_zero i), hw⟩ ?_
    clear hw
    rintro μ ρ w ⟨k, hk, hρ, hall, hw⟩
    rw [hρ.eq]
    repeat (first | refine byW ?_ | (refine byV ?_; intro w hw))
    refine W_cond rfl (fun h2 => ?_) (fun h2 => ?_)
    · have hkn : k < n2 := by simpa using h2
      obtain ⟨x, hx⟩ := get_lt (l := cs) (k := k) (by omega)
      obtain ⟨y, hy⟩ := get_lt (l := cs') (k := k) (by omega)
      have hx2 : (cs.map CacheH.T)[k]? = some x.T := by simp [hx]
      have hy2 : (cs'.map CacheH.T)[k]? = some y.T := by simp [hy]
      haveI : SlC Γ (.slice x.A x.N x.C) 1 (intRows x.Cores) := ⟨hok x (List.mem_of_getElem? hx)⟩
      haveI : SlC Γ (.slice y.A y.N y.C) 1 (intRows y.Cores) := ⟨hok' y (List.mem_of_getElem? hy)⟩
      repeat (first | refine byW ?_ | (refine byV ?_; intro w hw))
      refine W_mixed [.blk b3 (.cells #[.string G.Name, .slice A1 N1 C1, .slice A2 N2 C2, .slice A3 N3 C3, .slice A4 N4 C4, .slice A5 N5 C5] 35), .blk b2 (.cells #[.string H.Name, .slice a1 n1 c1, .slice a2 n2 c2, .slice a3 n3 c3, .slice a4 n4 c4, .slice a5 n5 c5] 35)] [fun _ => [], fun _ => [], fun _ => S] [[],[],[],[],[],[],[],[],[],[],[0],[1],[0],[1]] [[],[],[],[],[],[],[],[],[],[],[0],[1],[0],[1]] [[7], [8], []] (by have := hw; simpa [List.range, List.range.loop, ML] using this) ?_
      repeat (first | refine mY ?_ | refine mP ?_ | refine mPg ?_)
      refine mAlloc ?_
      refine mAlloc ?_
      refine mStoreAt ?_
      refine mStoreAt ?_
      refine mEnd fun w g hw => ?_
      have hw : Wd Γ (.blk b3 (.cells #[.string G.Name, .slice A1 N1 C1, .slice A2 N2 C2, .slice A3 N3 C3, .slice A4 N4 C4, .slice A5 N5 C5] 35) :: .blk b2 (.cells #[.string H.Name, .slice a1 n1 c1, .slice a2 n2 c2, .slice a3 n3 c3, .slice a4 n4 c4, .slice a5 n5 c5] 35) :: atP (g 7) _ :: atP (g 8) _ :: (S ++ [])) w := hw
      rw [List.append_nil] at hw
      obtain ⟨b7, hg7, hw⟩ := (Wd.ps [2] hw).openAt
      have hw : Wd Γ (.blk b7 (.cells (cC x).toArray 79) :: .blk b3 (.cells #[.string G.Name, .slice A1 N1 C1, .slice A2 N2 C2, .slice A3 N3 C3, .slice A4 N4 C4, .slice A5 N5 C5] 35) :: .blk b2 (.cells #[.string H.Name, .slice a1 n1 c1, .slice a2 n2 c2, .slice a3 n3 c3, .slice a4 n4 c4, .slice a5 n5 c5] 35) :: atP (g 8) _ :: S) w := hw
      obtain ⟨b8, hg8, hw⟩ := (Wd.ps [3] hw).openAt
      have hw : Wd Γ (.blk b8 (.cells (cC y).toArray 79) :: .blk b7 (.cells (cC x).toArray 79) :: .blk b3 (.cells #[.string G.Name, .slice A1 N1 C1, .slice A2 N2 C2, .slice A3 N3 C3, .slice A4 N4 C4, .slice A5 N5 C5] 35) :: .blk b2 (.cells #[.string H.Name, .slice a1 n1 c1, .slice a2 n2 c2, .slice a3 n3 c3, .slice a4 n4 c4, .slice a5 n5 c5] 35) :: S) w := hw
      refine W_has (l := [(2, .pointer (some ⟨b2, 0, none⟩)), (3, .pointer (some ⟨b3, 0, none⟩)), (6, .int .i64 k), (7, .pointer (some ⟨b7, 0, none⟩)), (8, .pointer (some ⟨b8, 0, none⟩))]) ⟨rfl, rfl, rfl, hg7, hg8, trivial⟩ fun ρ' hρ' => ?_
      clear hg7 hg8
      rw [hρ'.eq]
      clear hρ'
      repeat (first | refine byW ?_ | (refine byV ?_; intro w hw))
      refine W_cond rfl (fun h3 => ?_) (fun h3 => ?_)
      · have h3 : x.T ≠ y.T := fun e => by
          have q : ((((decide (x.T.Name ≠ y.T.Name) || decide (x.T.Level ≠ y.T.Level)) || decide (x.T.Line ≠ y.T.Line)) || decide (x.T.Size ≠ y.T.Size)) || !decide (x.T.Cores = y.T.Cores)) = true := h3
          rw [e] at q
          simp at q
        repeat (first | refine byW ?_ | (refine byV ?_; intro w hw))
        exact ⟨_, rfl, ret_b rfl (decide_eq_false fun e => h3 (by have e2 := congrArg HwT.Caches e; rw [← hcs, ← hcs'] at e2; rw [e2, hy2] at hx2; exact (Option.some.inj hx2).symm)).symm, hw.drop.drop.drop.drop⟩
      · have h3 : x.T = y.T := by
          have q : ((((decide (x.T.Name ≠ y.T.Name) || decide (x.T.Level ≠ y.T.Level)) || decide (x.T.Line ≠ y.T.Line)) || decide (x.T.Size ≠ y.T.Size)) || !decide (x.T.Cores = y.T.Cores)) = false := h3
          simp only [Bool.or_eq_false_iff, decide_eq_false_iff_not, Classical.not_not, Bool.not_eq_false', decide_eq_true_eq] at q
          obtain ⟨⟨⟨⟨a, b⟩, c⟩, d⟩, e⟩ := q
          exact cacheT_eq a b c d e
        repeat (first | refine byW ?_ | (refine byV ?_; intro w hw))
        exact ⟨μ - 1, by omega, k + 1, by omega, ⟨rfl, rfl, rfl, trivial⟩, eq_step hall hx2 hy2 h3, hw.drop.drop⟩
    · have hkn : ¬ k < n2 := by simpa using h2
      repeat (first | refine byW ?_ | (refine byV ?_; intro w hw))
      refine ⟨?_, ⟨rfl, rfl, trivial⟩, hw⟩
      rw [← hcs, ← hcs']
      exact eq_of_all (by simp; omega) (by simp; omega) hall
  clear hw
  rintro ρ w ⟨e2, hρ, hw⟩
  rw [hρ.eq]
  clear hρ
  repeat (first | refine byW ?_ | (refine byV ?_; intro w hw))
  refine W_cutB (fun ρ w => H.Links = G.Links ∧ Has ρ [(2, .pointer (some ⟨b2, 0, none⟩)), (3, .pointer (some ⟨b3, 0, none⟩))] ∧ Wd Γ (.blk b3 (.cells #[.string G.Name, .slice A1 N1 C1, .slice A2 N2 C2, .slice A3 N3 C3, .slice A4 N4 C4, .slice A5 N5 C5] 35) :: .blk b2 (.cells #[.string H.Name, .slice a1 n1 c1, .slice a2 n2 c2, .slice a3 n3 c3, .slice a4 n4 c4, .slice a5 n5 c5] 35) :: S) w) ?_ ?_
  · refine W_loop (fun μ ρ w => ∃ (k : Nat), μ + k = n3 ∧ Has ρ [(2, .pointer (some ⟨b2, 0, none⟩)), (3, .pointer (some ⟨b3, 0, none⟩)), (9, .int .i64 k)] ∧ (∀ (i : Nat) (x y : LinkT), i < k → H.Links[i]? = some x → G.Links[i]? = some y → x = y) ∧ Wd Γ (.blk b3 (.cells #[.string G.Name, .slice A1 N1 C1, .slice A2 N2 C2, .slice A3 N3 C3, .slice A4 N4 C4, .slice A5 N5 C5] 35) :: .blk b2 (.cells #[.string H.Name, .slice a1 n1 c1, .slice a2 n2 c2, .slice a3 n3 c3, .slice a4 n4 c4, .slice a5 n5 c5] 35) :: S) w) n3 ⟨0, by omega, ⟨rfl, rfl, rfl, trivial⟩, fun i x y hi => absurd hi (Nat.not_lt_zero i), hw⟩ ?_
    clear hw
    rintro μ ρ w ⟨k, hk, hρ, hall, hw⟩
    rw [hρ.eq]
    repeat (first | refine byW ?_ | (refine byV ?_; intro w hw))
    refine W_cond rfl (fun h2 => ?_) (fun h2 => ?_)
    · have hkn : k < n3 := by simpa using h2
      obtain ⟨x, hx⟩ := get_lt (l := H.Links) (k := k) (by omega)
      obtain ⟨y, hy⟩ := get_lt (l := G.Links) (k := k) (by omega)
      repeat (first | refine byW ?_ | (refine byV ?_; intro w hw))
      refine W_quiet (by kernel_rfl) (by kernel_rfl) hw ?_
      repeat (first | refine Q_nil ?_ | (apply Q_plain; first | (apply Q_go; first | refine qP ?_ | refine qPg ?_) | refine qY ?_) | (apply Q_guarded; first | (apply Q_go; first | refine qPG ?_ | refine qPgG ?_) | refine qG ?_))
      intro w hw
      refine W_cond rfl (fun h3 => ?_) (fun h3 => ?_)
      · have h3 : x ≠ y := of_decide_eq_true h3
        repeat (first | refine byW ?_ | (refine byV ?_; intro w hw))
        exact ⟨_, rfl, ret_b rfl (decide_eq_false fun e => h3 (by subst e; rw [hx] at hy; cases hy; rfl)).symm, hw.drop.drop⟩
      · have h3 : x = y := Classical.not_not.1 (of_decide_eq_false h3)
        repeat (first | refine byW ?_ | (refine byV ?_; intro w hw))
        exact ⟨μ - 1, by omega, k + 1, by omega, ⟨rfl, rfl, rfl, trivial⟩, eq_step hall hx hy h3, hw⟩
    · have hkn : ¬ k < n3 := by simpa using h2
      repeat (first | refine byW ?_ | (refine byV ?_; intro w hw))
      exact ⟨eq_of_all (by omega) (by omega) hall, ⟨rfl, rfl, trivial⟩, hw⟩
  clear hw
  rintro ρ w ⟨e3, hρ, hw⟩
  rw [hρ.eq]
  clear hρ
  repeat (first | refine byW ?_ | (refine byV ?_; intro w hw))
  refine W_cutB (fun ρ w => H.Mems = G.Mems ∧ Has ρ [(2, .pointer (some ⟨b2, 0, none⟩)), (3, .pointer (some ⟨b3, 0, none⟩))] ∧ Wd Γ (.blk b3 (.cells #[.string G.Name, .slice A1 N1 C1, .slice A2 N2 C2, .slice A3 N3 C3, .slice A4 N4 C4, .slice A5 N5 C5] 35) :: .blk b2 (.cells #[.string H.Name, .slice a1 n1 c1, .slice a2 n2 c2, .slice a3 n3 c3, .slice a4 n4 c4, .slice a5 n5 c5] 35) :: S) w) ?_ ?_
  · refine W_loop (fun μ ρ w => ∃ (k : Nat), μ + k = n4 ∧ Has ρ [(2, .pointer (some ⟨b2, 0, none⟩)), (3, .pointer (some ⟨b3, 0, none⟩)), (10, .int .i64 k)] ∧ (∀ (i : Nat) (x y : MemT), i < k → H.Mems[i]? = some x → G.Mems[i]? = some y → x = y) ∧ Wd Γ (.blk b3 (.cells #[.string G.Name, .slice A1 N1 C1, .slice A2 N2 C2, .slice A3 N3 C3, .slice A4 N4 C4, .slice A5 N5 C5] 35) :: .blk b2 (.cells #[.string H.Name, .slice a1 n1 c1, .slice a2 n2 c2, .slice a3 n3 c3, .slice a4 n4 c4, .slice a5 n5 c5] 35) :: S) w) n4 ⟨0, by omega, ⟨rfl, rfl, rfl, trivial⟩, fun i x y hi => absurd hi (Nat.not_lt_zero i), hw⟩ ?_
    clear hw
    rintro μ ρ w ⟨k, hk, hρ, hall, hw⟩
    rw [hρ.eq]
    repeat (first | refine byW ?_ | (refine byV ?_; intro w hw))
    refine W_cond rfl (fun h2 => ?_) (fun h2 => ?_)
    · have hkn : k < n4 := by simpa using h2
      obtain ⟨x, hx⟩ := get_lt (l := H.Mems) (k := k) (by omega)
      obtain ⟨y, hy⟩ := get_lt (l := G.Mems) (k := k) (by omega)
      repeat (first | refine byW ?_ | (refine byV ?_; intro w hw))
      refine W_quiet (by kernel_rfl) (by kernel_rfl) hw ?_
      repeat (first | refine Q_nil ?_ | (apply Q_plain; first | (apply Q_go; first | refine qP ?_ | refine qPg ?_) | refine qY ?_) | (apply Q_guarded; first | (apply Q_go; first | refine qPG ?_ | refine qPgG ?_) | refine qG ?_))
      intro w hw
      refine W_cond rfl (fun h3 => ?_) (fun h3 => ?_)
      · have h3 : x ≠ y := of_decide_eq_true h3
        repeat (first | refine byW ?_ | (refine byV ?_; intro w hw))
        exact ⟨_, rfl, ret_b rfl (decide_eq_false fun e => h3 (by subst e; rw [hx] at hy; cases hy; rfl)).symm, hw.drop.drop⟩
      · have h3 : x = y := Classical.not_not.1 (of_decide_eq_false h3)
        repeat (first | refine byW ?_ | (refine byV ?_; intro w hw))
        exact ⟨μ - 1, by omega, k + 1, by omega, ⟨rfl, rfl, rfl, trivial⟩, eq_step hall hx hy h3, hw⟩
    · have hkn : ¬ k < n4 := by simpa using h2
      repeat (first | refine byW ?_ | (refine byV ?_; intro w hw))
      exact ⟨eq_of_all (by omega) (by omega) hall, ⟨rfl, rfl, trivial⟩, hw⟩
  clear hw
  rintro ρ w ⟨e4, hρ, hw⟩
  rw [hρ.eq]
  clear hρ
  repeat (first | refine byW ?_ | (refine byV ?_; intro w hw))
  refine W_cutB (fun ρ w => H.Devs = G.Devs ∧ Has ρ [(2, .pointer (some ⟨b2, 0, none⟩)), (3, .pointer (some ⟨b3, 0, none⟩))] ∧ Wd Γ (.blk b3 (.cells #[.string G.Name, .slice A1 N1 C1, .slice A2 N2 C2, .slice A3 N3 C3, .slice A4 N4 C4, .slice A5 N5 C5] 35) :: .blk b2 (.cells #[.string H.Name, .slice a1 n1 c1, .slice a2 n2 c2, .slice a3 n3 c3, .slice a4 n4 c4, .slice a5 n5 c5] 35) :: S) w) ?_ ?_
  · refine W_loop (fun μ ρ w => ∃ (k : Nat), μ + k = n5 ∧ Has ρ [(2, .pointer (some ⟨b2, 0, none⟩)), (3, .pointer (some ⟨b3, 0, none⟩)), (11, .int .i64 k)] ∧ (∀ (i : Nat) (x y : DevT), i < k → H.Devs[i]? = some x → G.Devs[i]? = some y → x = y) ∧ Wd Γ (.blk b3 (.cells #[.string G.Name, .slice A1 N1 C1, .slice A2 N2 C2, .slice A3 N3 C3, .slice A4 N4 C4, .slice A5 N5 C5] 35) :: .blk b2 (.cells #[.string H.Name, .slice a1 n1 c1, .slice a2 n2 c2, .slice a3 n3 c3, .slice a4 n4 c4, .slice a5 n5 c5] 35) :: S) w) n5 ⟨0, by omega, ⟨rfl, rfl, rfl, trivial⟩, fun i x y hi => absurd hi (Nat.not_lt_zero i), hw⟩ ?_
    clear hw
    rintro μ ρ w ⟨k, hk, hρ, hall, hw⟩
    rw [hρ.eq]
    repeat (first | refine byW ?_ | (refine byV ?_; intro w hw))
    refine W_cond rfl (fun h2 => ?_) (fun h2 => ?_)
    · have hkn : k < n5 := by simpa using h2
      obtain ⟨x, hx⟩ := get_lt (l := H.Devs) (k := k) (by omega)
      obtain ⟨y, hy⟩ := get_lt (l := G.Devs) (k := k) (by omega)
      repeat (first | refine byW ?_ | (refine byV ?_; intro w hw))
      refine W_quiet (by kernel_rfl) (by kernel_rfl) hw ?_
      repeat (first | refine Q_nil ?_ | (apply Q_plain; first | (apply Q_go; first | refine qP ?_ | refine qPg ?_) | refine qY ?_) | (apply Q_guarded; first | (apply Q_go; first | refine qPG ?_ | refine qPgG ?_) | refine qG ?_))
      intro w hw
      refine W_cond rfl (fun h3 => ?_) (fun h3 => ?_)
      · have h3 : x ≠ y := of_decide_eq_true h3
        repeat (first | refine byW ?_ | (refine byV ?_; intro w hw))
        exact ⟨_, rfl, ret_b rfl (decide_eq_false fun e => h3 (by subst e; rw [hx] at hy; cases hy; rfl)).symm, hw.drop.drop⟩
      · have h3 : x = y := Classical.not_not.1 (of_decide_eq_false h3)
        repeat (first | refine byW ?_ | (refine byV ?_; intro w hw))
        exact ⟨μ - 1, by omega, k + 1, by omega, ⟨rfl, rfl, rfl, trivial⟩, eq_step hall hx hy h3, hw⟩
    · have hkn : ¬ k < n5 := by simpa using h2
      repeat (first | refine byW ?_ | (refine byV ?_; intro w hw))
      exact ⟨eq_of_all (by omega) (by omega) hall, ⟨rfl, rfl, trivial⟩, hw⟩
  clear hw
  rintro ρ w ⟨e5, hρ, hw⟩
  rw [hρ.eq]
  clear hρ
  repeat (first | refine byW ?_ | (refine byV ?_; intro w hw))
  refine ⟨_, rfl, ret_b rfl (decide_eq_true ?_).symm, hw.drop.drop⟩
  cases H; cases G
  simp only [HwT.mk.injEq]
  exact ⟨q0, e1, e2, e3, e4, e5⟩⟩
end Go.Proofs.YtimbobmmijgkiaaGreatDoor
end
/- DescLayout: the layout of a text does not matter. -/
section
open Go Mk
namespace Go.Proofs.YtimbobmmijgkiaaGreatDoor
set_option maxHeartbeats 16000000
attribute [local irreducible] Calls
instance pg_awake {Γ : Gho} : PG Tryz.prog Γ 7 [] (.bool true) := ⟨fun _ w hw => (awake_any (allG_wd w)).mono fun _ _ ⟨_, hle, he, h⟩ => ⟨he, wd_kept hw (wd_less hle h)⟩⟩
theorem parse_err {s : ByteArray} (h : (scanS s).2.2 ≠ 0) : (parseS s).2.2 = (scanS s).2.2 := by unfold parseS; rw [if_neg h]
theorem DescLayout_any {Γ : Gho} {S : List Res} {w : World} [hT : TabG Γ] (s : ByteArray) (hw : Wd Γ S w) : Calls Tryz.prog 3 #[.string s] w fun e w' => ∃ Γ', Γ.le Γ' ∧ e = .returned (.bool true) ∧ Wd Γ' S w' := by
  refine calls_of_W Tryz.func3 rfl rfl ?_
  repeat (first | refine byW ?_ | (refine byV ?_; intro w hw))
  refine W_cond rfl (fun h => ?_) (fun h => ?_)
  · repeat (first | refine byW ?_ | (refine byV ?_; intro w hw))
    exact ⟨_, rfl, Γ, Gho.le.refl _, rfl, hw⟩
  have hs : s.size ≤ 2000 := by have h2 : decide ((2000 : Int) < (s.size : Int)) = false := h; have := of_decide_eq_false h2; omega
  clear h
  repeat (first | refine byW ?_ | (refine byV ?_; intro w hw))
  refine lCall ?_
  refine (Scan_any Γ S w s (by omega) hw).mono ?_
  clear hw
  rintro r w ⟨v1, rfl, hw⟩
  refine ⟨_, rfl, ?_⟩
  have hlay := scan_lay (s := s) (by omega)
  have hpl := parse_lay (s := s) (by omega)
  have hpe := parse_err (s := s)
  generalize hsc : scanS s = sc at *
  obtain ⟨ts, p0, er⟩ := sc
  dsimp only at hlay hpl hpe hw
  obtain ⟨a, n, c, rfl, hn, hnc, hc⟩ := hw.own_shape (i := 0) rfl
  repeat (first | refine byW ?_ | (refine byV ?_; intro w hw))
  refine lAlloc ?_
  intro b4 w hw
  repeat (first | refine byW ?_ | (refine byV ?_; intro w hw))
  refine lStore ?_
  intro w hw
  have hw : Wd Γ (.blk b4 (.cells (enc p0).toArray 25) :: .own (.slice a n c) 53 5 (ts.map enc) :: S) w := hw
  have hw : Wd Γ (.own (.slice a n c) 53 5 (ts.map enc) :: S) w := hw.drop
  repeat (first | refine byW ?_ | (refine byV ?_; intro w hw))
  refine W_cond rfl (fun h => ?_) (fun h => ?_)
  · have h : er ≠ 0 := of_decide_eq_true h
    repeat (first | refine byW ?_ | (refine byV ?_; intro w hw))
    refine lCall ?_
    refine (Parse_any s (by unfold maxS0; omega) hw).mono ?_
    clear hw
    rintro r w ⟨Γ1, u1, e1, rfl, ho⟩
    refine ⟨_, rfl, ?_⟩
    obtain ⟨Γ2, e2, q1, hw⟩ := ho.freezeQ
    rw [hpe h]
    obtain ⟨Aa1, An1, Ac1, Aa2, An2, Ac2, Aa3, An3, Ac3, Aa4, An4, Ac4, Aa5, An5, Ac5, cs1, rfl, -⟩ := id q1.h
    repeat (first | refine byW ?_ | (refine byV ?_; intro w hw))
    refine lAlloc ?_
    intro b6 w hw
    refine lAlloc ?_
    intro b7 w hw
    refine lStore ?_
    intro w hw
    refine lStore ?_
    intro w hw
    have hw : Wd Γ2 S w := hw.ds [0, 0, 0]
    repeat (first | refine byW ?_ | (refine byV ?_; intro w hw))
    exact ⟨_, rfl, Γ2, e1.trans e2, ret_b rfl (by simp), hw⟩
  have h : er = 0 := Classical.byContradiction fun q => by rw [decide_eq_true q] at h; cases h
  obtain ⟨hp1, hp2⟩ := hpl h
  obtain ⟨hin, hl, -⟩ := hlay
  have hSZ : (mkB (layT ts)).size ≤ maxS0 := by rw [mkB_size]; unfold maxS0; omega
  have hP2 : ∀ {Γ : Gho} {S : List Res} {w : World}, Wd Γ S w → Calls Tryz.prog 9 #[.string (mkB (layT ts))] w fun r w' => ∃ Γ' u, Γ.le Γ' ∧ r = .returned (.tuple #[u, .agg (enc (parseS (mkB (layT ts))).2.1).toArray, .int .i64 (parseS s).2.2]) ∧ HwOut Γ' (parseS s).1 S u w' := fun hw => by
    have := Parse_any (mkB (layT ts)) hSZ hw
    rw [hp1, hp2] at this
    exact this
  clear hp1 hp2 hpl hpe hsc
  repeat (first | refine byW ?_ | (refine byV ?_; intro w hw))
  refine lCall ?_
  refine (Parse_any s (by unfold maxS0; omega) hw).mono ?_
  clear hw
  rintro r w ⟨Γ1, u1, e1, rfl, ho⟩
  refine ⟨_, rfl, ?_⟩
  obtain ⟨Γ2, e2, q1, hw⟩ := ho.freezeQ
  clear ho
  revert hP2 q1
  generalize parseS s = R
  obtain ⟨H, p, er'⟩ := R
  intro hP2 q1
  have q1 : HwQ Γ2 u1 H := q1
  obtain ⟨Aa1, An1, Ac1, Aa2, An2, Ac2, Aa3, An3, Ac3, Aa4, An4, Ac4, Aa5, An5, Ac5, cs1, rfl, -⟩ := id q1.h
  repeat (first | refine byW ?_ | (refine byV ?_; intro w hw))
  refine lAlloc ?_
  intro b9 w hw
  refine lAlloc ?_
  intro b10 w hw
  refine lStore ?_
  intro w hw
  refine lStore ?_
  intro w hw
  have hw : Wd Γ2 (.blk b10 (.cells (enc p).toArray 25) :: .blk b9 (.cells #[.string H.Name, .slice Aa1 An1 Ac1, .slice Aa2 An2 Ac2, .slice Aa3 An3 Ac3, .slice Aa4 An4 Ac4, .slice Aa5 An5 Ac5] 35) :: .own (.slice a n c) 53 5 (ts.map enc) :: S) w := hw
  have hw := hw.drop
  haveI hT2 : TabG Γ2 := hT.mono (e1.trans e2)
  repeat (first | refine byW ?_ | (refine byV ?_; intro w hw))
  refine lCall (vs := [.slice a n c]) ?_
  refine (HFormat_any ts hin hl (RdS.own (i := 1) hw rfl) hw).mono ?_
  clear hw
  rintro r w ⟨rfl, hw⟩
  refine ⟨_, rfl, ?_⟩
  repeat (first | refine byW ?_ | (refine byV ?_; intro w hw))
  refine lCall (vs := [.string (mkB (layT ts))]) ?_
  refine (hP2 hw).mono ?_
  clear hw
  rintro r w ⟨Γ3, u2, e3, rfl, ho⟩
  refine ⟨_, rfl, ?_⟩
  obtain ⟨Γ4, e4, q2, hw⟩ := ho.freezeQ
  clear ho hP2
  have q2 : HwQ Γ4 u2 H := q2
  haveI q1 := q1.mono (e3.trans e4)
  obtain ⟨Ba1, Bn1, Bc1, Ba2, Bn2, Bc2, Ba3, Bn3, Bc3, Ba4, Bn4, Bc4, Ba5, Bn5, Bc5, cs2, rfl, -⟩ := id q2.h
  generalize (parseS (mkB (layT ts))).2.1 = p2
  repeat (first | refine byW ?_ | (refine byV ?_; intro w hw))
  refine lAlloc ?_
  intro b12 w hw
  refine lAlloc ?_
  intro b13 w hw
  refine lStore ?_
  intro w hw
  refine lStore ?_
  intro w hw
  have hw : Wd Γ4 (.blk b13 (.cells (enc p2).toArray 25) :: .blk b12 (.cells #[.string H.Name, .slice Ba1 Bn1 Bc1, .slice Ba2 Bn2 Bc2, .slice Ba3 Bn3 Bc3, .slice Ba4 Bn4 Bc4, .slice Ba5 Bn5 Bc5] 35) :: .blk b9 (.cells #[.string H.Name, .slice Aa1 An1 Ac1, .slice Aa2 An2 Ac2, .slice Aa3 An3 Ac3, .slice Aa4 An4 Ac4, .slice Aa5 An5 Ac5] 35) :: .own (.slice a n c) 53 5 (ts.map enc) :: S) w := hw
  haveI : PG Tryz.prog Γ4 11 [.agg #[.string H.Name, .slice Aa1 An1 Ac1, .slice Aa2 An2 Ac2, .slice Aa3 An3 Ac3, .slice Aa4 An4 Ac4, .slice Aa5 An5 Ac5], .agg #[.string H.Name, .slice Ba1 Bn1 Bc1, .slice Ba2 Bn2 Bc2, .slice Ba3 Bn3 Bc3, .slice Ba4 Bn4 Bc4, .slice Ba5 Bn5 Bc5]] (.bool true) := by
    have h := pg_REqual (hh := q1) (hg := q2)
    rw [decide_eq_true (rfl : H = H)] at h
    exact h
  repeat (first | refine byW ?_ | (refine byV ?_; intro w hw))
  exact ⟨_, rfl, Γ4, e1.trans (e2.trans (e3.trans e4)), ret_b rfl (by simp), hw.ds [0, 0, 0, 0]⟩
end Go.Proofs.YtimbobmmijgkiaaGreatDoor
end
