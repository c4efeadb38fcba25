/- Words and names, and numbers brought into a range: what these functions answer. -/
import Derived.Test.YtekdbdhkpolooaaTypes
open Go Mk
namespace Go.Proofs.Ytekdbdhkpolooaa
attribute [local irreducible] Calls

def letterB (c : Int) : Bool := decide (97 ≤ c) && decide (c ≤ 122) || decide (65 ≤ c) && decide (c ≤ 90) || decide (c = 95)
def digitB (c : Int) : Bool := decide (48 ≤ c) && decide (c ≤ 57)
instance (c : Int) : PC Try.prog 58 [.int .u8 c] (.bool (letterB c)) := ⟨fun w => by
  refine calls_of_W Try.func58 rfl rfl ?_
  repeat (first | (first | refine W_seq ?_ | refine W_block ?_ | refine W_region ?_ | refine W_skip ?_ | refine W_ret ?_ | refine W_exit ?_) | (first | refine L_nil ?_ | (apply L_plain; first | (apply L_go; refine lP ?_) | (apply L_mf; refine lMakeFunc ?_) | refine lY ?_) | (apply L_guarded; first | refine lGT ?_ | refine lGF ?_ | (apply L_go; refine lPG ?_) | refine lG ?_)))
  exact ⟨_, rfl, rfl, rfl⟩⟩
instance (c : Int) : PC Try.prog 64 [.int .u8 c] (.bool (digitB c)) := ⟨fun w => by
  refine calls_of_W Try.func64 rfl rfl ?_
  repeat (first | (first | refine W_seq ?_ | refine W_block ?_ | refine W_region ?_ | refine W_skip ?_ | refine W_ret ?_ | refine W_exit ?_) | (first | refine L_nil ?_ | (apply L_plain; first | (apply L_go; refine lP ?_) | (apply L_mf; refine lMakeFunc ?_) | refine lY ?_) | (apply L_guarded; first | refine lGT ?_ | refine lGF ?_ | (apply L_go; refine lPG ?_) | refine lG ?_)))
  exact ⟨_, rfl, rfl, rfl⟩⟩
instance (c : Int) : PC Try.prog 75 [.int .u8 c] (.bool (letterB c)) := ⟨fun w => by
  refine calls_of_W Try.func75 rfl rfl ?_
  repeat (first | (first | refine W_seq ?_ | refine W_block ?_ | refine W_region ?_ | refine W_skip ?_ | refine W_ret ?_ | refine W_exit ?_) | (first | refine L_nil ?_ | (apply L_plain; first | (apply L_go; refine lP ?_) | (apply L_mf; refine lMakeFunc ?_) | refine lY ?_) | (apply L_guarded; first | refine lGT ?_ | refine lGF ?_ | (apply L_go; refine lPG ?_) | refine lG ?_)))
  exact ⟨_, rfl, rfl, rfl⟩⟩
instance (c : Int) : PC Try.prog 76 [.int .u8 c] (.bool (digitB c)) := ⟨fun w => by
  refine calls_of_W Try.func76 rfl rfl ?_
  repeat (first | (first | refine W_seq ?_ | refine W_block ?_ | refine W_region ?_ | refine W_skip ?_ | refine W_ret ?_ | refine W_exit ?_) | (first | refine L_nil ?_ | (apply L_plain; first | (apply L_go; refine lP ?_) | (apply L_mf; refine lMakeFunc ?_) | refine lY ?_) | (apply L_guarded; first | refine lGT ?_ | refine lGF ?_ | (apply L_go; refine lPG ?_) | refine lG ?_)))
  exact ⟨_, rfl, rfl, rfl⟩⟩

/-- The i-th byte. -/
abbrev byteAt (s : ByteArray) (i : Nat) : Int := ((s.data.toList.getD i 0).toNat : Int)
def wordC (b : UInt8) : Bool := letterB b.toNat || digitB b.toNat
def runN (s : ByteArray) : Nat := (s.data.toList.takeWhile wordC).length
def wordS (s : ByteArray) : Bool := decide (0 < s.size) && letterB (byteAt s 0) && s.data.toList.all wordC
def nameS (s : ByteArray) : Bool := wordS s && decide (s.size ≤ 24)

theorem takeWhile_len {p : UInt8 → Bool} : ∀ {l : List UInt8} {k : Nat}, k ≤ l.length → (∀ i, i < k → p (l.getD i 0) = true) → (k < l.length → p (l.getD k 0) = false) → (l.takeWhile p).length = k
  | [], k, h, _, _ => by simp at h; simp [h]
  | x :: l, 0, _, _, h2 => by
    have := h2 (by simp)
    simp at this
    simp [this]
  | x :: l, k + 1, h, h1, h2 => by
    have h0 := h1 0 (by omega)
    simp at h0
    simp only [List.takeWhile_cons, h0, if_true, List.length_cons]
    rw [takeWhile_len (l := l) (k := k) (by simpa using h) (fun i hi => h1 (i + 1) (by omega)) (fun hk => h2 (by simp only [List.length_cons]; omega))]
theorem size_toList (s : ByteArray) : s.data.toList.length = s.size := Array.length_toList

class SB (s : ByteArray) : Prop where h : s.size ≤ 4611686018427387904
theorem toList_get {s : ByteArray} {k : Nat} : ((s.data.toList.getD (Int.toNat (k : Int)) 0).toNat : Int) = byteAt s k := rfl

instance (s : ByteArray) [hs : SB s] : PC Try.prog 59 [.string s] (.int .i64 (runN s)) := ⟨fun w => by
  have h63 := hs.h
  refine calls_of_W Try.func59 rfl rfl ?_
  repeat (first | (first | refine W_seq ?_ | refine W_block ?_ | refine W_region ?_ | refine W_skip ?_ | refine W_ret ?_ | refine W_exit ?_) | (first | refine L_nil ?_ | (apply L_plain; first | (apply L_go; refine lP ?_) | (apply L_mf; refine lMakeFunc ?_) | refine lY ?_) | (apply L_guarded; first | refine lGT ?_ | refine lGF ?_ | (apply L_go; refine lPG ?_) | refine lG ?_)))
  refine W_loop (fun μ ρ w' => ∃ k : Nat, μ + k = s.size ∧ Has ρ [(0, .string s), (3, .int .i64 k)] ∧ w' = w ∧ ∀ i, i < k → wordC (s.data.toList.getD i 0) = true) s.size ⟨0, rfl, ⟨rfl, rfl, trivial⟩, rfl, fun i h => absurd h (Nat.not_lt_zero i)⟩ ?_
  rintro μ ρ w' ⟨k, hk, hρ, rfl, hi⟩
  rw [hρ.eq]
  repeat (first | (first | refine W_seq ?_ | refine W_block ?_ | refine W_region ?_ | refine W_skip ?_ | refine W_ret ?_ | refine W_exit ?_) | (first | refine L_nil ?_ | (apply L_plain; first | (apply L_go; refine lP ?_) | (apply L_mf; refine lMakeFunc ?_) | refine lY ?_) | (apply L_guarded; first | refine lGT ?_ | refine lGF ?_ | (apply L_go; refine lPG ?_) | refine lG ?_)))
  refine W_cond rfl (fun h => ?_) (fun h => ?_)
  · have h' := andL h
    simp only [decide_eq_true_eq] at h'
    repeat (first | (first | refine W_seq ?_ | refine W_block ?_ | refine W_region ?_ | refine W_skip ?_ | refine W_ret ?_ | refine W_exit ?_) | (first | refine L_nil ?_ | (apply L_plain; first | (apply L_go; refine lP ?_) | (apply L_mf; refine lMakeFunc ?_) | refine lY ?_) | (apply L_guarded; first | refine lGT ?_ | refine lGF ?_ | (apply L_go; refine lPG ?_) | refine lG ?_)))
    refine ⟨μ - 1, by omega, k + 1, by omega, ⟨rfl, rfl, trivial⟩, rfl, fun i hi' => ?_⟩
    by_cases e : i = k
    · subst e; exact andR h
    · exact hi i (by omega)
  · repeat (first | (first | refine W_seq ?_ | refine W_block ?_ | refine W_region ?_ | refine W_skip ?_ | refine W_ret ?_ | refine W_exit ?_) | (first | refine L_nil ?_ | (apply L_plain; first | (apply L_go; refine lP ?_) | (apply L_mf; refine lMakeFunc ?_) | refine lY ?_) | (apply L_guarded; first | refine lGT ?_ | refine lGF ?_ | (apply L_go; refine lPG ?_) | refine lG ?_)))
    refine ⟨_, rfl, ret_i rfl ?_, rfl⟩
    have := takeWhile_len (p := wordC) (l := s.data.toList) (k := k) (by rw [size_toList]; omega) hi (fun hk' => by
      rw [size_toList] at hk'
      rw [show decide ((k : Int) < (s.size : Int)) = true from by simp; omega] at h
      exact h)
    show (k : Int) = ((s.data.toList.takeWhile wordC).length : Int)
    rw [this]⟩

theorem takeWhile_all {p : UInt8 → Bool} {l : List UInt8} : ((l.takeWhile p).length = l.length) ↔ l.all p = true := by
  induction l with
  | nil => simp
  | cons x l ih =>
    simp only [List.takeWhile_cons, List.all_cons]
    cases p x with
    | true => simp [ih]
    | false => simp
instance (s : ByteArray) [hs : SB s] : PC Try.prog 46 [.string s] (.bool (wordS s)) := ⟨fun w => by
  refine calls_of_W Try.func46 rfl rfl ?_
  repeat (first | (first | refine W_seq ?_ | refine W_block ?_ | refine W_region ?_ | refine W_skip ?_ | refine W_ret ?_ | refine W_exit ?_) | (first | refine L_nil ?_ | (apply L_plain; first | (apply L_go; refine lP ?_) | (apply L_mf; refine lMakeFunc ?_) | refine lY ?_) | (apply L_guarded; first | refine lGT ?_ | refine lGF ?_ | (apply L_go; refine lPG ?_) | refine lG ?_)))
  refine ⟨_, rfl, ret_b rfl ?_, rfl⟩
  have h1 : decide (s ≠ ⟨#[]⟩) = decide (0 < s.size) := by simp only [ne_nilB]
  have h2 : decide ((runN s : Int) = (s.size : Int)) = s.data.toList.all wordC := by
    rw [Bool.eq_iff_iff, decide_eq_true_eq, ← takeWhile_all, size_toList]
    unfold runN; omega
  rw [h1, h2]; rfl⟩
instance (s : ByteArray) [hs : SB s] : PC Try.prog 24 [.string s] (.bool (nameS s)) := ⟨fun w => by
  refine calls_of_W Try.func24 rfl rfl ?_
  repeat (first | (first | refine W_seq ?_ | refine W_block ?_ | refine W_region ?_ | refine W_skip ?_ | refine W_ret ?_ | refine W_exit ?_) | (first | refine L_nil ?_ | (apply L_plain; first | (apply L_go; refine lP ?_) | (apply L_mf; refine lMakeFunc ?_) | refine lY ?_) | (apply L_guarded; first | refine lGT ?_ | refine lGF ?_ | (apply L_go; refine lPG ?_) | refine lG ?_)))
  refine ⟨_, rfl, ret_b rfl ?_, rfl⟩
  unfold nameS
  congr 1
  rw [decide_eq_decide]; omega⟩

instance (s : ByteArray) [hs : SB s] : PC Try.prog 63 [.string s] (.bool (wordS s)) := ⟨fun w => by
  have h63 := hs.h
  refine calls_of_W Try.func63 rfl rfl ?_
  repeat (first | (first | refine W_seq ?_ | refine W_block ?_ | refine W_region ?_ | refine W_skip ?_ | refine W_ret ?_ | refine W_exit ?_) | (first | refine L_nil ?_ | (apply L_plain; first | (apply L_go; refine lP ?_) | (apply L_mf; refine lMakeFunc ?_) | refine lY ?_) | (apply L_guarded; first | refine lGT ?_ | refine lGF ?_ | (apply L_go; refine lPG ?_) | refine lG ?_)))
  refine W_cond rfl (fun h => ?_) (fun h => ?_)
  · repeat (first | (first | refine W_seq ?_ | refine W_block ?_ | refine W_region ?_ | refine W_skip ?_ | refine W_ret ?_ | refine W_exit ?_) | (first | refine L_nil ?_ | (apply L_plain; first | (apply L_go; refine lP ?_) | (apply L_mf; refine lMakeFunc ?_) | refine lY ?_) | (apply L_guarded; first | refine lGT ?_ | refine lGF ?_ | (apply L_go; refine lPG ?_) | refine lG ?_)))
    refine ⟨_, rfl, ret_b rfl ?_, rfl⟩
    unfold wordS
    by_cases h0 : s = ⟨#[]⟩
    · subst h0; rfl
    · rw [show decide (s = ⟨#[]⟩) = false from by simpa using h0] at h
      have h1 : letterB (byteAt s 0) = false := by have h' : (false || !letterB (byteAt s 0)) = true := h; simpa using h'
      rw [h1]; simp
  · simp only [Bool.or_eq_false_iff, Bool.not_eq_false', decide_eq_false_iff_not, eq_nilB] at h
    have h1 : letterB (byteAt s 0) = true := h.2
    repeat (first | (first | refine W_seq ?_ | refine W_block ?_ | refine W_region ?_ | refine W_skip ?_ | refine W_ret ?_ | refine W_exit ?_) | (first | refine L_nil ?_ | (apply L_plain; first | (apply L_go; refine lP ?_) | (apply L_mf; refine lMakeFunc ?_) | refine lY ?_) | (apply L_guarded; first | refine lGT ?_ | refine lGF ?_ | (apply L_go; refine lPG ?_) | refine lG ?_)))
    refine W_loop (fun μ ρ w' => ∃ k : Nat, μ + k = s.size ∧ Has ρ [(0, .string s), (3, .int .i64 k)] ∧ w' = w ∧ 0 < k ∧ ∀ i, i < k → wordC (s.data.toList.getD i 0) = true) (s.size - 1) ⟨1, by omega, ⟨rfl, rfl, trivial⟩, rfl, by omega, fun i hi => ?_⟩ ?_
    · have : i = 0 := by omega
      subst this
      show (letterB (byteAt s 0) || _) = true
      rw [h1]; rfl
    rintro μ ρ w' ⟨k, hk, hρ, rfl, hk0, hi⟩
    rw [hρ.eq]
    repeat (first | (first | refine W_seq ?_ | refine W_block ?_ | refine W_region ?_ | refine W_skip ?_ | refine W_ret ?_ | refine W_exit ?_) | (first | refine L_nil ?_ | (apply L_plain; first | (apply L_go; refine lP ?_) | (apply L_mf; refine lMakeFunc ?_) | refine lY ?_) | (apply L_guarded; first | refine lGT ?_ | refine lGF ?_ | (apply L_go; refine lPG ?_) | refine lG ?_)))
    refine W_cond rfl (fun h2 => ?_) (fun h2 => ?_)
    · have h' : k < s.size := by simpa using h2
      repeat (first | (first | refine W_seq ?_ | refine W_block ?_ | refine W_region ?_ | refine W_skip ?_ | refine W_ret ?_ | refine W_exit ?_) | (first | refine L_nil ?_ | (apply L_plain; first | (apply L_go; refine lP ?_) | (apply L_mf; refine lMakeFunc ?_) | refine lY ?_) | (apply L_guarded; first | refine lGT ?_ | refine lGF ?_ | (apply L_go; refine lPG ?_) | refine lG ?_)))
      refine W_cond rfl (fun h3 => ?_) (fun h3 => ?_)
      · repeat (first | (first | refine W_seq ?_ | refine W_block ?_ | refine W_region ?_ | refine W_skip ?_ | refine W_ret ?_ | refine W_exit ?_) | (first | refine L_nil ?_ | (apply L_plain; first | (apply L_go; refine lP ?_) | (apply L_mf; refine lMakeFunc ?_) | refine lY ?_) | (apply L_guarded; first | refine lGT ?_ | refine lGF ?_ | (apply L_go; refine lPG ?_) | refine lG ?_)))
        refine ⟨_, rfl, ret_b rfl ?_, rfl⟩
        have h4 : wordC (s.data.toList.getD k 0) = false := by
          show (letterB (byteAt s k) || digitB (byteAt s k)) = false
          have h5 : (!letterB (byteAt s k) && !digitB (byteAt s k)) = true := h3
          simpa using h5
        have h6 : s.data.toList.all wordC = false := by
          rw [← Bool.not_eq_true, List.all_eq_true]
          intro hall
          have hm := hall (s.data.toList.getD k 0) (by
            rw [List.getD_eq_getElem?_getD, List.getElem?_eq_getElem (by rw [size_toList]; exact h')]
            exact List.getElem_mem _)
          rw [h4] at hm; cases hm
        unfold wordS; rw [h6]; simp
      · repeat (first | (first | refine W_seq ?_ | refine W_block ?_ | refine W_region ?_ | refine W_skip ?_ | refine W_ret ?_ | refine W_exit ?_) | (first | refine L_nil ?_ | (apply L_plain; first | (apply L_go; refine lP ?_) | (apply L_mf; refine lMakeFunc ?_) | refine lY ?_) | (apply L_guarded; first | refine lGT ?_ | refine lGF ?_ | (apply L_go; refine lPG ?_) | refine lG ?_)))
        refine ⟨μ - 1, by omega, k + 1, by omega, ⟨rfl, rfl, trivial⟩, rfl, by omega, fun i hi' => ?_⟩
        by_cases e : i = k
        · subst e
          have h5 : (!letterB (byteAt s i) && !digitB (byteAt s i)) = false := h3
          show (letterB (byteAt s i) || digitB (byteAt s i)) = true
          cases hl : letterB (byteAt s i) <;> cases hd : digitB (byteAt s i) <;> simp [hl, hd] at h5 ⊢
        · exact hi i (by omega)
    · repeat (first | (first | refine W_seq ?_ | refine W_block ?_ | refine W_region ?_ | refine W_skip ?_ | refine W_ret ?_ | refine W_exit ?_) | (first | refine L_nil ?_ | (apply L_plain; first | (apply L_go; refine lP ?_) | (apply L_mf; refine lMakeFunc ?_) | refine lY ?_) | (apply L_guarded; first | refine lGT ?_ | refine lGF ?_ | (apply L_go; refine lPG ?_) | refine lG ?_)))
      refine ⟨_, rfl, ret_b rfl ?_, rfl⟩
      have h' : ¬ k < s.size := by simpa using h2
      have h6 : s.data.toList.all wordC = true := by
        rw [List.all_eq_true]
        intro x hx
        obtain ⟨i, hil, rfl⟩ := List.getElem_of_mem hx
        have := hi i (by rw [size_toList] at hil; omega)
        rwa [List.getD_eq_getElem?_getD, List.getElem?_eq_getElem hil] at this
      unfold wordS; rw [h6, h1]
      simp; omega⟩
instance (s : ByteArray) [hs : SB s] : PC Try.prog 53 [.string s] (.bool (nameS s)) := ⟨fun w => by
  refine calls_of_W Try.func53 rfl rfl ?_
  repeat (first | (first | refine W_seq ?_ | refine W_block ?_ | refine W_region ?_ | refine W_skip ?_ | refine W_ret ?_ | refine W_exit ?_) | (first | refine L_nil ?_ | (apply L_plain; first | (apply L_go; refine lP ?_) | (apply L_mf; refine lMakeFunc ?_) | refine lY ?_) | (apply L_guarded; first | refine lGT ?_ | refine lGF ?_ | (apply L_go; refine lPG ?_) | refine lG ?_)))
  refine ⟨_, rfl, ret_b rfl ?_, rfl⟩
  unfold nameS
  congr 1
  rw [decide_eq_decide]; omega⟩

class PosL (n : Int) : Prop where h : 0 < n ∧ n ≤ 1099511627776
instance : PosL 3 := ⟨by decide⟩
instance : PosL 4 := ⟨by decide⟩
instance : PosL 5 := ⟨by decide⟩
instance : PosL 6 := ⟨by decide⟩
instance : PosL 8 := ⟨by decide⟩
instance : PosL 32 := ⟨by decide⟩
instance : PosL 100 := ⟨by decide⟩
instance (v n : Int) [hn : PosL n] : PC Try.prog 8 [.int .i64 v, .int .i64 n] (.int .i64 (v % n)) := ⟨fun w => by
  have h := hn.h
  have hm := Int.tmod_lt_of_pos v h.1
  have hm2 : -n < v.tmod n := by
    have := Int.tmod_lt_of_pos (-v) h.1
    rw [Int.neg_tmod] at this; omega
  have he : v % n = if v.tmod n < 0 then v.tmod n + n else v.tmod n := by
    have h3 : v % n = v.tmod n % n := by
      have h4 := Int.mul_tdiv_add_tmod v n
      have h5 := Int.mul_add_emod_self_left n (v.tdiv n) (v.tmod n)
      rw [h4] at h5; exact h5
    rw [h3]
    split
    · rw [← Int.add_emod_right]; exact Int.emod_eq_of_lt (by omega) (by omega)
    · exact Int.emod_eq_of_lt (by omega) hm
  refine calls_of_W Try.func8 rfl rfl ?_
  repeat (first | (first | refine W_seq ?_ | refine W_block ?_ | refine W_region ?_ | refine W_skip ?_ | refine W_ret ?_ | refine W_exit ?_) | (first | refine L_nil ?_ | (apply L_plain; first | (apply L_go; refine lP ?_) | (apply L_mf; refine lMakeFunc ?_) | refine lY ?_) | (apply L_guarded; first | refine lGT ?_ | refine lGF ?_ | (apply L_go; refine lPG ?_) | refine lG ?_)))
  refine W_cond rfl (fun h1 => ?_) (fun h1 => ?_)
  · repeat (first | (first | refine W_seq ?_ | refine W_block ?_ | refine W_region ?_ | refine W_skip ?_ | refine W_ret ?_ | refine W_exit ?_) | (first | refine L_nil ?_ | (apply L_plain; first | (apply L_go; refine lP ?_) | (apply L_mf; refine lMakeFunc ?_) | refine lY ?_) | (apply L_guarded; first | refine lGT ?_ | refine lGF ?_ | (apply L_go; refine lPG ?_) | refine lG ?_)))
    refine ⟨_, rfl, ret_i rfl ?_, rfl⟩
    rw [he, if_pos (by simpa using h1)]
  · repeat (first | (first | refine W_seq ?_ | refine W_block ?_ | refine W_region ?_ | refine W_skip ?_ | refine W_ret ?_ | refine W_exit ?_) | (first | refine L_nil ?_ | (apply L_plain; first | (apply L_go; refine lP ?_) | (apply L_mf; refine lMakeFunc ?_) | refine lY ?_) | (apply L_guarded; first | refine lGT ?_ | refine lGF ?_ | (apply L_go; refine lPG ?_) | refine lG ?_)))
    refine ⟨_, rfl, ret_i rfl ?_, rfl⟩
    rw [he, if_neg (by simpa using h1)]⟩

def coreS (n : Int) : Bool := decide (0 ≤ n) && decide (n < 32)
instance (n : Int) : PC Try.prog 25 [.int .i64 n] (.bool (coreS n)) := ⟨fun w => by
  refine calls_of_W Try.func25 rfl rfl ?_
  repeat (first | (first | refine W_seq ?_ | refine W_block ?_ | refine W_region ?_ | refine W_skip ?_ | refine W_ret ?_ | refine W_exit ?_) | (first | refine L_nil ?_ | (apply L_plain; first | (apply L_go; refine lP ?_) | (apply L_mf; refine lMakeFunc ?_) | refine lY ?_) | (apply L_guarded; first | refine lGT ?_ | refine lGF ?_ | (apply L_go; refine lPG ?_) | refine lG ?_)))
  exact ⟨_, rfl, rfl, rfl⟩⟩
instance (n : Int) : PC Try.prog 54 [.int .i64 n] (.bool (coreS n)) := ⟨fun w => by
  refine calls_of_W Try.func54 rfl rfl ?_
  repeat (first | (first | refine W_seq ?_ | refine W_block ?_ | refine W_region ?_ | refine W_skip ?_ | refine W_ret ?_ | refine W_exit ?_) | (first | refine L_nil ?_ | (apply L_plain; first | (apply L_go; refine lP ?_) | (apply L_mf; refine lMakeFunc ?_) | refine lY ?_) | (apply L_guarded; first | refine lGT ?_ | refine lGF ?_ | (apply L_go; refine lPG ?_) | refine lG ?_)))
  exact ⟨_, rfl, rfl, rfl⟩⟩
end Go.Proofs.Ytekdbdhkpolooaa
