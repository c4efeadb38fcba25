/- Texts of this proof, one behind another. -/
import Derived.Test.YtimbobmmijgkiaaGreatDoorM3
import Derived.Test.YtimbobmmijgkiaaGreatDoorM2
import Derived.Lib.Bytealg
import Derived.Lib.ItoaNum
set_option linter.unusedVariables false
set_option linter.unusedSimpArgs false
/- The program's lexer: a token. -/
section
open Go Mk
namespace Go.Proofs.YtimbobmmijgkiaaGreatDoor
set_option maxHeartbeats 4000000
attribute [local irreducible] Calls numS punctN

def tokOf (t : TokR) : Tok := ⟨t.kind, t.text, t.value, 0, 0⟩
theorem runN_le (s : ByteArray) : runN s ≤ s.size := by
  have : (s.data.toList.takeWhile wordC).length ≤ s.data.toList.length := (List.takeWhile_sublist _).length_le
  rw [← bts_len]; exact this
theorem runN_pos {s : ByteArray} (h0 : 0 < s.size) (h : wordC (s.data.toList.getD 0 0) = true) : 0 < runN s := by
  have hl := bts_len s
  unfold runN
  cases hb : s.data.toList with
  | nil => rw [show bts s = [] from hb] at hl; simp at hl; omega
  | cons c l =>
    rw [hb] at h
    have h : wordC c = true := h
    simp [List.takeWhile_cons, h]
theorem strN_eq {s : ByteArray} {k : Nat} (h1 : 1 ≤ k) (hk : k ≤ s.size) (ha : ∀ i, 1 ≤ i → i < k → inStr (byteAt s i) = true) (hn : k < s.size → inStr (byteAt s k) = false) : strN s = k := by
  have hl := bts_len s
  have hg : ∀ i, ((bts s).drop 1).getD i 0 = (bts s).getD (i + 1) 0 := fun i => by
    rw [List.getD_eq_getElem?_getD, List.getD_eq_getElem?_getD, List.getElem?_drop, Nat.add_comm]
  unfold strN
  rw [takeWhile_len (k := k - 1) (by simp [hl]; omega) (fun i hi => by rw [hg]; exact ha (i + 1) (by omega) (by omega)) (fun hh => by
    rw [hg, show k - 1 + 1 = k from by omega]
    exact hn (by simp [hl] at hh; omega))]
  omega

theorem punctN_le (s : ByteArray) : punctN s ≤ s.size := by
  unfold punctN
  split
  · rename_i h; exact h.1
  · split
    · rename_i h; exact h.1
    · omega
theorem pg_token (Γ : Gho) (s : ByteArray) (hs : s.size ≤ 4611686018427387904) (h0 : 0 < s.size) : PG Tryz.prog Γ 24 [.string s] (.tuple #[.agg (enc (tokOf (tokS s))).toArray, .int .i64 (tokS s).n, .int .i64 (tokS s).err]) := ⟨fun S w hw => by
  haveI : SB s := ⟨hs⟩
  have hrl := runN_le s
  refine calls_of_WC Tryz.func24 rfl rfl ?_
  repeat (first | refine byW ?_ | (refine byV ?_; intro w hw))
  refine lAlloc ?_
  intro b w hw
  repeat (first | refine byW ?_ | (refine byV ?_; intro w hw))
  refine W_cond rfl (fun h => ?_) (fun h => ?_)
  · have h : letterB (byteAt s 0) = true := h
    have hT : tokS s = ⟨1, bSub s 0 (runN s), 0, runN s, 0⟩ := by unfold tokS; rw [if_pos h]
    rw [hT]
    repeat (first | refine byW ?_ | (refine byV ?_; intro w hw))
    refine lStore ?_
    intro w hw
    have hw : Wd Γ (.blk b (.cells (enc (⟨1, bSub s 0 (runN s), 0, 0, 0⟩ : Tok)).toArray 53) :: S) w := hw
    repeat (first | refine byW ?_ | (refine byV ?_; intro w hw))
    exact ⟨[.agg (enc (⟨1, bSub s 0 (runN s), 0, 0, 0⟩ : Tok)).toArray, .int .i64 (runN s), .int .i64 0], ⟨resC (i := 0) hw rfl rfl rfl, rfl, rfl, trivial⟩, rfl, hw.drop⟩
  have h : letterB (byteAt s 0) = false := h
  repeat (first | refine byW ?_ | (refine byV ?_; intro w hw))
  refine W_cond rfl (fun h2 => ?_) (fun h2 => ?_)
  · have h2 : digitB (byteAt s 0) = true := h2
    have hrp : 0 < runN s := runN_pos h0 (by unfold wordC; rw [show digitB ((s.data.toList.getD 0 0).toNat : Int) = true from h2]; simp)
    have hsz : (bSub s 0 (runN s)).size = runN s := by rw [sub_size hrl]; omega
    have hT : tokS s = if (numS (bSub s 0 (runN s))).2 = 0 then ⟨2, ⟨#[]⟩, (numS (bSub s 0 (runN s))).1, runN s, 0⟩ else tokErr (numS (bSub s 0 (runN s))).2 := by unfold tokS; rw [if_neg (by rw [h]; simp), if_pos h2]
    rw [hT]
    repeat (first | refine byW ?_ | (refine byV ?_; intro w hw))
    refine lCall ?_
    refine (number_any (bSub s 0 (runN s)) (by omega) (by omega) w).mono ?_
    rintro e w' ⟨rfl, rfl⟩
    refine ⟨_, rfl, ?_⟩
    generalize numS (bSub s 0 (runN s)) = r
    obtain ⟨v, er⟩ := r
    repeat (first | refine byW ?_ | (refine byV ?_; intro w hw))
    refine W_cond rfl (fun h3 => ?_) (fun h3 => ?_)
    · have h3 : ¬ er = 0 := by simpa using h3
      repeat (first | refine byW ?_ | (refine byV ?_; intro w hw))
      refine lStore ?_
      intro w hw
      have hw : Wd Γ (.blk b (.cells (enc (⟨0, ⟨#[]⟩, 0, 0, 0⟩ : Tok)).toArray 53) :: S) w := hw
      repeat (first | refine byW ?_ | (refine byV ?_; intro w hw))
      refine ⟨[.agg (enc (⟨0, ⟨#[]⟩, 0, 0, 0⟩ : Tok)).toArray, .int .i64 0, .int .i64 er], ⟨resC (i := 0) hw rfl rfl rfl, rfl, rfl, trivial⟩, ?_, hw.drop⟩
      rw [if_neg h3]; rfl
    · have h3 : er = 0 := by simpa using h3
      repeat (first | refine byW ?_ | (refine byV ?_; intro w hw))
      refine lStore ?_
      intro w hw
      have hw : Wd Γ (.blk b (.cells (enc (⟨2, ⟨#[]⟩, v, 0, 0⟩ : Tok)).toArray 53) :: S) w := hw
      repeat (first | refine byW ?_ | (refine byV ?_; intro w hw))
      refine ⟨[.agg (enc (⟨2, ⟨#[]⟩, v, 0, 0⟩ : Tok)).toArray, .int .i64 (runN s), .int .i64 0], ⟨resC (i := 0) hw rfl rfl rfl, rfl, rfl, trivial⟩, ?_, hw.drop⟩
      rw [if_pos h3]; rfl
  have h2 : digitB (byteAt s 0) = false := h2
  repeat (first | refine byW ?_ | (refine byV ?_; intro w hw))
  refine W_cond rfl (fun h3 => ?_) (fun h3 => ?_)
  · have h3 : byteAt s 0 = 34 := of_decide_eq_true h3
    have hT : tokS s = if strN s < s.size ∧ byteAt s (strN s) = 34 then ⟨3, bSub s 1 (strN s), 0, strN s + 1, 0⟩ else tokErr 50 := by unfold tokS; rw [if_neg (by rw [h]; simp), if_neg (by rw [h2]; simp), if_pos h3]
    rw [hT]
    repeat (first | refine byW ?_ | (refine byV ?_; intro w hw))
    refine W_loop (fun μ ρ w => ∃ k : Nat, μ + k = s.size ∧ 1 ≤ k ∧ Has ρ [(0, .string s), (2, .pointer (some ⟨b, 0, none⟩)), (10, .int .i64 k)] ∧ (∀ i, 1 ≤ i → i < k → inStr (byteAt s i) = true) ∧ Wd Γ (.blk b (.cells (enc (⟨0, ⟨#[]⟩, 0, 0, 0⟩ : Tok)).toArray 53) :: S) w) (s.size - 1) ⟨1, by omega, by omega, ⟨rfl, rfl, rfl, trivial⟩, fun i h1 h2 => by omega, hw⟩ ?_
    clear hw
    rintro μ ρ w ⟨k, hk, hk1, hρ, hall, hw⟩
    rw [hρ.eq]
    repeat (first | refine byW ?_ | (refine byV ?_; intro w hw))
    refine W_cond rfl (fun h4 => ?_) (fun h4 => ?_)
    · have h4 : k < s.size ∧ inStr (byteAt s k) = true := by
        rw [Bool.and_eq_true, decide_eq_true_eq] at h4
        exact ⟨by omega, h4.2⟩
      repeat (first | refine byW ?_ | (refine byV ?_; intro w hw))
      refine ⟨μ - 1, by omega, k + 1, by omega, by omega, ⟨rfl, rfl, rfl, trivial⟩, fun i h1 h2 => ?_, hw⟩
      by_cases e : i = k
      · subst e; exact h4.2
      · exact hall i h1 (by omega)
    · have hS : strN s = k := strN_eq hk1 (by omega) hall (fun hlt => by
        have e1 : decide ((k : Int) < s.size) = true := by simp; omega
        rw [e1, Bool.true_and] at h4
        exact h4)
      rw [hS]
      clear h4
      have hks : k ≤ s.size := by omega
      repeat (first | refine byW ?_ | (refine byV ?_; intro w hw))
      have key : (decide ((k : Int) = s.size) || decide (byteAt s k ≠ 34)) = !decide (k < s.size ∧ byteAt s k = 34) := by
        rw [show decide ((k : Int) = s.size) = decide (¬ k < s.size) from decide_eq_decide.2 (by omega)]
        by_cases e1 : k < s.size <;> by_cases e2 : byteAt s k = 34 <;> simp [e1, e2]
      refine W_cond rfl (fun h4 => ?_) (fun h4 => ?_)
      · have h4 := key.symm.trans h4
        have h4 : ¬ (k < s.size ∧ byteAt s k = 34) := fun hh => by rw [decide_eq_true hh] at h4; cases h4
        repeat (first | refine byW ?_ | (refine byV ?_; intro w hw))
        refine lStore ?_
        intro w hw
        have hw : Wd Γ (.blk b (.cells (enc (⟨0, ⟨#[]⟩, 0, 0, 0⟩ : Tok)).toArray 53) :: S) w := hw
        repeat (first | refine byW ?_ | (refine byV ?_; intro w hw))
        refine ⟨[.agg (enc (⟨0, ⟨#[]⟩, 0, 0, 0⟩ : Tok)).toArray, .int .i64 0, .int .i64 50], ⟨resC (i := 0) hw rfl rfl rfl, rfl, rfl, trivial⟩, ?_, hw.drop⟩
        rw [if_neg h4]; rfl
      · have h4 := key.symm.trans h4
        have h4 : k < s.size ∧ byteAt s k = 34 := by simpa using h4
        have hkl := h4.1
        repeat (first | refine byW ?_ | (refine byV ?_; intro w hw))
        refine lStore ?_
        intro w hw
        have hw : Wd Γ (.blk b (.cells (enc (⟨3, bSub s 1 k, 0, 0, 0⟩ : Tok)).toArray 53) :: S) w := hw
        repeat (first | refine byW ?_ | (refine byV ?_; intro w hw))
        refine ⟨[.agg (enc (⟨3, bSub s 1 k, 0, 0, 0⟩ : Tok)).toArray, .int .i64 ((k : Int) + 1), .int .i64 0], ⟨resC (i := 0) hw rfl rfl rfl, rfl, rfl, trivial⟩, ?_, hw.drop⟩
        rw [if_pos h4]; rfl
  · have h3 : ¬ byteAt s 0 = 34 := of_decide_eq_false h3
    have hT : tokS s = if punctN s = 0 then tokErr 50 else ⟨4, bSub s 0 (punctN s), 0, punctN s, 0⟩ := by unfold tokS; rw [if_neg (by rw [h]; simp), if_neg (by rw [h2]; simp), if_neg h3]
    have hpl := punctN_le s
    rw [hT]
    repeat (first | refine byW ?_ | (refine byV ?_; intro w hw))
    refine W_cond rfl (fun h4 => ?_) (fun h4 => ?_)
    · have h4 : punctN s = 0 := by have := of_decide_eq_true h4; omega
      repeat (first | refine byW ?_ | (refine byV ?_; intro w hw))
      refine lStore ?_
      intro w hw
      have hw : Wd Γ (.blk b (.cells (enc (⟨0, ⟨#[]⟩, 0, 0, 0⟩ : Tok)).toArray 53) :: S) w := hw
      repeat (first | refine byW ?_ | (refine byV ?_; intro w hw))
      refine ⟨[.agg (enc (⟨0, ⟨#[]⟩, 0, 0, 0⟩ : Tok)).toArray, .int .i64 0, .int .i64 50], ⟨resC (i := 0) hw rfl rfl rfl, rfl, rfl, trivial⟩, ?_, hw.drop⟩
      rw [if_pos h4]; rfl
    · have h4 : ¬ punctN s = 0 := by have := of_decide_eq_false h4; omega
      repeat (first | refine byW ?_ | (refine byV ?_; intro w hw))
      refine lStore ?_
      intro w hw
      have hw : Wd Γ (.blk b (.cells (enc (⟨4, bSub s 0 (punctN s), 0, 0, 0⟩ : Tok)).toArray 53) :: S) w := hw
      repeat (first | refine byW ?_ | (refine byV ?_; intro w hw))
      refine ⟨[.agg (enc (⟨4, bSub s 0 (punctN s), 0, 0, 0⟩ : Tok)).toArray, .int .i64 (punctN s), .int .i64 0], ⟨resC (i := 0) hw rfl rfl rfl, rfl, rfl, trivial⟩, ?_, hw.drop⟩
      rw [if_neg h4]; rfl⟩
end Go.Proofs.YtimbobmmijgkiaaGreatDoor
end
/- The program's lexer: positions, and that tokens hold no line's end (no program in sight). -/
section
open Go Mk
namespace Go.Proofs.YtimbobmmijgkiaaGreatDoor
set_option maxHeartbeats 400000
attribute [local irreducible] Calls numS punctN

theorem word_nl {b : UInt8} (h : wordC b = true) : ((b.toNat : Nat) : Int) ≠ 10 := by
  intro e
  unfold wordC letterB digitB at h
  rw [e] at h; revert h; decide
theorem inStr_nl {c : Int} (h : inStr c = true) : c ≠ 10 := by
  intro e; rw [e] at h; revert h; decide
theorem takeWhile_get {p : UInt8 → Bool} : ∀ {l : List UInt8} {i : Nat}, i < (l.takeWhile p).length → p (l.getD i 0) = true
  | [], i, h => by simp at h
  | x :: l, i, h => by
    by_cases hx : p x = true
    · rw [List.takeWhile_cons, if_pos hx] at h
      cases i with
      | zero => simpa using hx
      | succ i => exact takeWhile_get (l := l) (i := i) (by simpa using h)
    · rw [List.takeWhile_cons, if_neg hx] at h; simp at h
theorem tok_ok {s : ByteArray} (h0 : 0 < s.size) (he : (tokS s).err = 0) : 1 ≤ (tokS s).n ∧ (tokS s).n ≤ s.size ∧ ∀ i, i < (tokS s).n → byteAt s i ≠ 10 := by
  have hrl := runN_le s
  have hrun : ∀ i, i < runN s → byteAt s i ≠ 10 := fun i hi => word_nl (takeWhile_get (p := wordC) hi)
  unfold tokS at he ⊢
  by_cases h1 : letterB (byteAt s 0) = true
  · rw [if_pos h1]
    exact ⟨runN_pos h0 (by unfold wordC; rw [show letterB ((s.data.toList.getD 0 0).toNat : Int) = true from h1]; rfl), hrl, hrun⟩
  rw [if_neg h1] at he ⊢
  by_cases h2 : digitB (byteAt s 0) = true
  · rw [if_pos h2] at he ⊢
    by_cases h3 : (numS (bSub s 0 (runN s))).2 = 0
    · rw [if_pos h3]
      exact ⟨runN_pos h0 (by unfold wordC; rw [show digitB ((s.data.toList.getD 0 0).toNat : Int) = true from h2]; simp), hrl, hrun⟩
    · rw [if_neg h3] at he; exact absurd he h3
  rw [if_neg h2] at he ⊢
  by_cases h3 : byteAt s 0 = 34
  · rw [if_pos h3] at he ⊢
    by_cases h4 : strN s < s.size ∧ byteAt s (strN s) = 34
    · rw [if_pos h4]
      refine ⟨by show 1 ≤ strN s + 1; omega, by show strN s + 1 ≤ s.size; omega, fun i hi => ?_⟩
      have hi : i < strN s + 1 := hi
      by_cases e0 : i = 0
      · subst e0; rw [h3]; decide
      · by_cases e1 : i = strN s
        · subst e1; rw [h4.2]; decide
        · have hi2 : i - 1 < (((bts s).drop 1).takeWhile inStrC).length := by unfold strN at hi e1; omega
          have := takeWhile_get (p := inStrC) hi2
          rw [List.getD_eq_getElem?_getD, List.getElem?_drop, show 1 + (i - 1) = i from by omega, ← List.getD_eq_getElem?_getD] at this
          exact inStr_nl this
    · rw [if_neg h4] at he; exact absurd he (by decide)
  rw [if_neg h3] at he ⊢
  by_cases h4 : punctN s = 0
  · rw [if_pos h4] at he; exact absurd he (by decide)
  rw [if_neg h4]
  refine ⟨by show 1 ≤ punctN s; omega, punctN_le s, fun i hi => ?_⟩
  have hi : i < punctN s := hi
  unfold punctN at hi
  by_cases h5 : 2 ≤ s.size ∧ two2 (byteAt s 0) (byteAt s 1) = true
  · rw [if_pos h5] at hi
    have h6 := h5.2
    intro e
    rcases (by omega : i = 0 ∨ i = 1) with rfl | rfl <;> (rw [e] at h6; unfold two2 at h6; simp at h6)
  · rw [if_neg h5] at hi
    split at hi
    · rename_i h6
      have hi0 : i = 0 := by omega
      subst hi0
      intro e
      have : s.data.toList.getD 0 0 = 10 := by
        apply UInt8.toNat_inj.1
        have e' : ((s.data.toList.getD 0 0).toNat : Int) = 10 := e
        show _ = 10
        omega
      rw [this] at h6
      exact absurd h6.2 (by decide)
    · omega
theorem posAt_run {s : ByteArray} {off : Nat} : ∀ (n : Nat), (∀ i, i < n → byteAt s (off + i) ≠ 10) → posAt s (off + n) = ⟨(posAt s off).Line, (posAt s off).Col + n⟩
  | 0, _ => by simp
  | n + 1, h => by
    have ih := posAt_run n (fun i hi => h i (by omega))
    rw [show off + (n + 1) = (off + n) + 1 from by omega]
    rw [show posAt s (off + n + 1) = if byteAt s (off + n) = 10 then ⟨(posAt s (off + n)).Line + 1, 1⟩ else ⟨(posAt s (off + n)).Line, (posAt s (off + n)).Col + 1⟩ from rfl, if_neg (h n (by omega)), ih]
    simp; omega
theorem posAt_nl {s : ByteArray} {k : Nat} (h : byteAt s k = 10) : posAt s (k + 1) = ⟨(posAt s k).Line + 1, 1⟩ := by
  rw [show posAt s (k + 1) = if byteAt s k = 10 then ⟨(posAt s k).Line + 1, 1⟩ else ⟨(posAt s k).Line, (posAt s k).Col + 1⟩ from rfl, if_pos h]
theorem skipN_eq {s : ByteArray} {off k : Nat} (h1 : off ≤ k) (hk : k ≤ s.size) (ha : ∀ i, off ≤ i → i < k → byteAt s i ≠ 10) (hn : k < s.size → byteAt s k = 10) : skipN s off = k := by
  have hl := bts_len s
  have hg : ∀ i, ((bts s).drop off).getD i 0 = (bts s).getD (off + i) 0 := fun i => by
    rw [List.getD_eq_getElem?_getD, List.getD_eq_getElem?_getD, List.getElem?_drop]
  unfold skipN
  rw [takeWhile_len (k := k - off) (by simp [hl]; omega) (fun i hi => by rw [hg]; exact decide_eq_true (ha (off + i) (by omega) (by omega))) (fun hh => by
    rw [hg, show off + (k - off) = k from by omega]
    have := hn (by simp [hl] at hh; omega)
    exact decide_eq_false (fun q => q this))]
  omega
end Go.Proofs.YtimbobmmijgkiaaGreatDoor
end
/- The program's lexer: Scan. -/
section
open Go Mk
namespace Go.Proofs.YtimbobmmijgkiaaGreatDoor
set_option maxHeartbeats 4000000
attribute [local irreducible] Calls numS punctN tokS posAt skipN

theorem Scan_any (Γ : Gho) (S : List Res) (w : World) (s : ByteArray) (hs : s.size ≤ 4611686018427387904) (hw : Wd Γ S w) :
    Calls Tryz.prog 8 #[.string s] w fun e w' => ∃ v, e = .returned (.tuple #[v, .agg (enc (scanS s).2.1).toArray, .int .i64 (scanS s).2.2]) ∧ Wd Γ (.own v 53 5 ((scanS s).1.map enc) :: S) w' := by
  refine calls_of_WC Tryz.func8 rfl rfl ?_
  repeat (first | refine byW ?_ | (refine byV ?_; intro w hw))
  refine lAlloc ?_
  intro bp w hw
  have hw : Wd Γ (.blk bp (.cells (enc (⟨0, 0⟩ : PosT)).toArray 25) :: S) w := hw
  repeat (first | refine byW ?_ | (refine byV ?_; intro w hw))
  refine W_scopeS ?_
  repeat (first | refine byW ?_ | (refine byV ?_; intro w hw))
  refine W_cond rfl (fun h => ?_) (fun h => ?_)
  · have h : 65536 < s.size := by simp at h; omega
    have hS : scanS s = ([], ⟨0, 0⟩, 15) := by unfold scanS; rw [if_pos h]
    rw [hS]
    repeat (first | refine byW ?_ | (refine byV ?_; intro w hw))
    refine lStore ?_
    intro w hw
    have hw : Wd Γ (.blk bp (.cells (enc (⟨0, 0⟩ : PosT)).toArray 25) :: S) w := hw
    repeat (first | refine byW ?_ | (refine byV ?_; intro w hw))
    exact ⟨[.slice none 0 0, .agg (enc (⟨0, 0⟩ : PosT)).toArray, .int .i64 15], ⟨rfl, resC (i := 0) hw rfl rfl rfl, rfl, trivial⟩, _, rfl, Wd.addNil hw.drop⟩
  have h : ¬ 65536 < s.size := by simp at h; omega
  have hS : scanS s = scanN s (s.size + 1) 0 [] := by unfold scanS; rw [if_neg h]
  rw [hS]
  repeat (first | refine byW ?_ | (refine byV ?_; intro w hw))
  refine W_label ?_
  repeat (first | refine byW ?_ | (refine byV ?_; intro w hw))
  refine W_loop (fun μ ρ w => ∃ (off start : Nat) (g : Value) (toks : List Tok), off ≤ s.size ∧ s.size < μ + off ∧ start ≤ off ∧ (posAt s off).Col = (off : Int) - start + 1 ∧ (posAt s off).Line ≤ 1 + off ∧ toks.length ≤ off ∧ Has ρ [(0, .string s), (3, .pointer (some ⟨bp, 0, none⟩)), (5, g), (6, .int .i64 (posAt s off).Line), (7, .int .i64 start), (8, .int .i64 off)] ∧ scanN s (s.size + 1) 0 [] = scanN s μ off toks ∧ 0 ≤ (posAt s off).Line ∧ Wd Γ (.own g 53 5 (toks.map enc) :: .blk bp (.cells (enc (⟨0, 0⟩ : PosT)).toArray 25) :: S) w) (s.size + 1) ?_ ?_
  · have p0 : posAt s 0 = ⟨1, 1⟩ := by unfold posAt; rfl
    refine ⟨0, 0, .slice none 0 0, [], by omega, by omega, by omega, ?_, ?_, by simp, ⟨rfl, rfl, rfl, ?_, rfl, rfl, trivial⟩, rfl, ?_, Wd.addNil hw⟩
    · rw [p0]; rfl
    · rw [p0]; decide
    · rw [p0]; rfl
    · rw [p0]; decide
  clear hw
  rintro μ ρ w ⟨off, start, g, toks, ho, hμ, hst, hcol, hlin, htl, hρ, hN, hl0, hw⟩
  rw [hρ.eq]
  obtain ⟨f, rfl⟩ : ∃ f, μ = f + 1 := ⟨μ - 1, by omega⟩
  rw [hN]
  clear hS
  repeat (first | refine byW ?_ | (refine byV ?_; intro w hw))
  refine W_cond rfl (fun h1 => ?_) (fun h1 => ?_)
  · have h1 : off < s.size := by simpa using h1
    have hsp : spaceB (byteAt s off) = true → scanN s (f + 1) off toks = scanN s f (off + 1) toks := fun q => by
      show (if s.size ≤ off then _ else _) = _
      rw [if_neg (by omega), if_pos q]
    have hp1 : byteAt s off ≠ 10 → posAt s (off + 1) = ⟨(posAt s off).Line, (posAt s off).Col + 1⟩ := fun q => by
      have := posAt_run (s := s) (off := off) 1 (fun i hi => by rw [show off + i = off from by omega]; exact q)
      simpa using this
    have hp2 : byteAt s off = 10 → posAt s (off + 1) = ⟨(posAt s off).Line + 1, 1⟩ := posAt_nl
    repeat (first | refine byW ?_ | (refine byV ?_; intro w hw))
    refine W_cond rfl (fun e1 => ?_) (fun e1 => ?_)
    · have e1 : byteAt s off = 10 := of_decide_eq_true e1
      have hq := hp2 e1
      repeat (first | refine byW ?_ | (refine byV ?_; intro w hw))
      refine ⟨f, by omega, off + 1, off + 1, g, toks, by omega, by omega, by omega, by rw [hq]; show (1 : Int) = _; omega, by rw [hq]; show (posAt s off).Line + 1 ≤ _; omega, by omega, ⟨rfl, rfl, rfl, by rw [hq]; rfl, rfl, rfl, trivial⟩, by rw [hsp (by rw [e1]; rfl)], by rw [hq]; show 0 ≤ (posAt s off).Line + 1; omega, hw⟩
    have e1 : byteAt s off ≠ 10 := of_decide_eq_false e1
    have hq := hp1 e1
    repeat (first | refine byW ?_ | (refine byV ?_; intro w hw))
    refine W_cond rfl (fun e2 => ?_) (fun e2 => ?_)
    · repeat (first | refine byW ?_ | (refine byV ?_; intro w hw))
      refine W_cond_true (by simp only [e2]; rfl) ?_
      have e2 : byteAt s off = 32 := of_decide_eq_true e2
      repeat (first | refine byW ?_ | (refine byV ?_; intro w hw))
      exact ⟨f, by omega, off + 1, start, g, toks, by omega, by omega, by omega, by rw [hq]; show (posAt s off).Col + 1 = _; omega, by rw [hq]; show (posAt s off).Line ≤ _; omega, by omega, ⟨rfl, rfl, rfl, by rw [hq]; rfl, rfl, rfl, trivial⟩, by rw [hsp (by rw [e2]; rfl)], by rw [hq]; exact hl0, hw⟩
    repeat (first | refine byW ?_ | (refine byV ?_; intro w hw))
    refine W_cond rfl (fun e3 => ?_) (fun e3 => ?_)
    · repeat (first | refine byW ?_ | (refine byV ?_; intro w hw))
      refine W_cond_true (by simp only [e3]; rfl) ?_
      have e3 : byteAt s off = 9 := of_decide_eq_true e3
      repeat (first | refine byW ?_ | (refine byV ?_; intro w hw))
      exact ⟨f, by omega, off + 1, start, g, toks, by omega, by omega, by omega, by rw [hq]; show (posAt s off).Col + 1 = _; omega, by rw [hq]; show (posAt s off).Line ≤ _; omega, by omega, ⟨rfl, rfl, rfl, by rw [hq]; rfl, rfl, rfl, trivial⟩, by rw [hsp (by rw [e3]; rfl)], by rw [hq]; exact hl0, hw⟩
    repeat (first | refine byW ?_ | (refine byV ?_; intro w hw))
    refine W_cond rfl (fun e4 => ?_) (fun e4 => ?_)
    · have e4 : byteAt s off = 13 := of_decide_eq_true e4
      repeat (first | refine byW ?_ | (refine byV ?_; intro w hw))
      exact ⟨f, by omega, off + 1, start, g, toks, by omega, by omega, by omega, by rw [hq]; show (posAt s off).Col + 1 = _; omega, by rw [hq]; show (posAt s off).Line ≤ _; omega, by omega, ⟨rfl, rfl, rfl, by rw [hq]; rfl, rfl, rfl, trivial⟩, by rw [hsp (by rw [e4]; rfl)], by rw [hq]; exact hl0, hw⟩
    have e2 : byteAt s off ≠ 32 := of_decide_eq_false e2
    have e3 : byteAt s off ≠ 9 := of_decide_eq_false e3
    have e4 : byteAt s off ≠ 13 := of_decide_eq_false e4
    have hns : ¬ spaceB (byteAt s off) = true := by simp [spaceB, e1, e2, e3, e4]
    repeat (first | refine byW ?_ | (refine byV ?_; intro w hw))
    refine W_cond rfl (fun e5 => ?_) (fun e5 => ?_)
    · have e5 : byteAt s off = 35 := of_decide_eq_true e5
      have hsk : scanN s (f + 1) off toks = scanN s f (skipN s off) toks := by
        show (if s.size ≤ off then _ else _) = _
        rw [if_neg (by omega), if_neg hns, if_pos e5]
      repeat (first | refine byW ?_ | (refine byV ?_; intro w hw))
      refine W_loop (fun μ ρ w => ∃ k : Nat, μ + k = s.size ∧ off ≤ k ∧ Has ρ [(0, .string s), (3, .pointer (some ⟨bp, 0, none⟩)), (5, g), (6, .int .i64 (posAt s off).Line), (7, .int .i64 start), (8, .int .i64 k)] ∧ (∀ i, off ≤ i → i < k → byteAt s i ≠ 10) ∧ Wd Γ (.own g 53 5 (toks.map enc) :: .blk bp (.cells (enc (⟨0, 0⟩ : PosT)).toArray 25) :: S) w) (s.size - off) ⟨off, by omega, by omega, ⟨rfl, rfl, rfl, rfl, rfl, rfl, trivial⟩, fun i h1 h2 => by omega, hw⟩ ?_
      clear hw hρ
      rintro μ2 ρ w ⟨k, hk, hk1, hρ, hall, hw⟩
      rw [hρ.eq]
      repeat (first | refine byW ?_ | (refine byV ?_; intro w hw))
      refine W_cond rfl (fun h4 => ?_) (fun h4 => ?_)
      · have h4 : k < s.size ∧ byteAt s k ≠ 10 := by
          rw [Bool.and_eq_true, decide_eq_true_eq] at h4
          exact ⟨by omega, of_decide_eq_true h4.2⟩
        have hkl := h4.1
        repeat (first | refine byW ?_ | (refine byV ?_; intro w hw))
        refine ⟨μ2 - 1, by omega, k + 1, by omega, by omega, ⟨rfl, rfl, rfl, rfl, rfl, rfl, trivial⟩, fun i h1 h2 => ?_, hw⟩
        by_cases e : i = k
        · subst e; exact h4.2
        · exact hall i h1 (by omega)
      · have hend : k < s.size → byteAt s k = 10 := fun hlt => by
          have q1 : decide ((k : Int) < s.size) = true := by simp; omega
          rw [q1, Bool.true_and] at h4
          have := of_decide_eq_false h4
          exact Classical.not_not.1 this
        have hkk : off < k := by
          rcases Nat.lt_or_ge off k with q | q
          · exact q
          · have : k = off := by omega
            subst this
            have := hend h1
            exact absurd this e1
        have hks : skipN s off = k := skipN_eq hk1 (by omega) hall hend
        have hpk := posAt_run (s := s) (off := off) (k - off) (fun i hi => hall (off + i) (by omega) (by omega))
        rw [show off + (k - off) = k from by omega] at hpk
        repeat (first | refine byW ?_ | (refine byV ?_; intro w hw))
        exact ⟨f, by omega, k, start, g, toks, by omega, by omega, by omega, by rw [hpk]; show (posAt s off).Col + _ = _; omega, by rw [hpk]; show (posAt s off).Line ≤ _; omega, by omega, ⟨rfl, rfl, rfl, by rw [hpk]; rfl, rfl, rfl, trivial⟩, by rw [hsk, hks], by rw [hpk]; exact hl0, hw⟩
    have e5 : byteAt s off ≠ 35 := of_decide_eq_false e5
    have hsz : (bSub s off s.size).size = s.size - off := sub_size (Nat.le_refl _)
    have hok := tok_ok (s := bSub s off s.size) (by omega)
    have hstep : scanN s (f + 1) off toks = if (tokS (bSub s off s.size)).err = 0 then scanN s f (off + (tokS (bSub s off s.size)).n) (toks ++ [⟨(tokS (bSub s off s.size)).kind, (tokS (bSub s off s.size)).text, (tokS (bSub s off s.size)).value, (posAt s off).Line, (posAt s off).Col⟩]) else ([], posAt s off, (tokS (bSub s off s.size)).err) := by
      show (if s.size ≤ off then _ else _) = _
      rw [if_neg (by omega), if_neg hns, if_neg e5]
    have hbyte : ∀ i, i < s.size - off → byteAt (bSub s off s.size) i = byteAt s (off + i) := fun i hi => byte_sub (by omega)
    rw [hstep]
    obtain ⟨ag, ng, cg, rfl, hng, hngc, hcg⟩ := hw.own_shape (i := 0) rfl
    simp only [List.length_map] at hng
    have hoz : (0 : Int) ≤ off := by omega
    repeat (first | refine byW ?_ | (refine byV ?_; intro w hw))
    refine lAlloc ?_
    intro b9 w hw
    refine lStore ?_
    intro w hw
    have hw : Wd Γ (.blk b9 (.cells (enc (⟨(posAt s off).Line, (off : Int) - start + 1⟩ : PosT)).toArray 25) :: .own (.slice ag ng cg) 53 5 (toks.map enc) :: .blk bp (.cells (enc (⟨0, 0⟩ : PosT)).toArray 25) :: S) w := hw
    rw [← hcol] at hw
    repeat (first | refine byW ?_ | (refine byV ?_; intro w hw))
    refine lPg (hp := pg_token Γ (bSub s off s.size) (by omega) (by omega)) ?_
    intro w hw
    generalize tokS (bSub s off s.size) = t at *
    repeat (first | refine byW ?_ | (refine byV ?_; intro w hw))
    refine lAlloc ?_
    intro b10 w hw
    refine lStore ?_
    intro w hw
    have hw : Wd Γ (.blk b10 (.cells (enc (tokOf t)).toArray 53) :: .blk b9 (.cells (enc (⟨(posAt s off).Line, (posAt s off).Col⟩ : PosT)).toArray 25) :: .own (.slice ag ng cg) 53 5 (toks.map enc) :: .blk bp (.cells (enc (⟨0, 0⟩ : PosT)).toArray 25) :: S) w := hw
    repeat (first | refine byW ?_ | (refine byV ?_; intro w hw))
    refine W_cond rfl (fun h6 => ?_) (fun h6 => ?_)
    · have h6 : ¬ t.err = 0 := by simpa using h6
      rw [if_neg h6]
      repeat (first | refine byW ?_ | (refine byV ?_; intro w hw))
      refine W_mixC [.blk b10 _, .blk b9 _, .own _ _ _ _] (.blk bp _ :: S) [] [[],[],[],[0],[]] hw ?_
      repeat (first | refine mY ?_ | refine mP ?_ | refine mPg ?_)
      refine mStepX (φ := fun (_ : Unit) _ => True) (R := fun _ => .blk bp (.cells (enc (⟨0, 0⟩ : PosT)).toArray 25) :: S) (v := undef) (T' := Unit) (fun _ _ => True) (fun _ => .blk bp (.cells (enc (⟨(posAt s off).Line, (posAt s off).Col⟩ : PosT)).toArray 25) :: S) (fun t' g w Y _ hw => s_store (i := 0) (inferInstance : TSz Tryz.prog 25 2).h hw rfl rfl rfl rfl (fun u hu => (List.all_eq_true.1 (enc_one (⟨(posAt s off).Line, (posAt s off).Col⟩ : PosT))) u hu) rfl (Nat.le_refl 2) fun w' hw' => ⟨(), trivial, (fun _ => rfl), hw'⟩) ?_
      repeat (first | refine mY ?_ | refine mP ?_ | refine mPg ?_)
      refine mEndX fun t' w g _ hw => ?_
      have hw : Wd Γ (.blk bp (.cells (enc (posAt s off)).toArray 25) :: S) w := Wd.left (S := .blk bp _ :: S) hw
      repeat (first | refine byW ?_ | (refine byV ?_; intro w hw))
      exact ⟨[.slice none 0 0, .agg (enc (posAt s off)).toArray, .int .i64 t.err], ⟨rfl, resC (i := 0) hw rfl rfl rfl, rfl, trivial⟩, _, rfl, Wd.addNil hw.drop⟩
    · have h6 : t.err = 0 := by simpa using h6
      rw [if_pos h6]
      obtain ⟨hn1, hn2, hnn⟩ := hok h6
      rw [hsz] at hn2
      have hpn := posAt_run (s := s) (off := off) t.n (fun i hi => by rw [← hbyte i (by omega)]; exact hnn i hi)
      repeat (first | refine byW ?_ | (refine byV ?_; intro w hw))
      refine lStore ?_
      intro w hw
      have hw : Wd Γ (.blk b10 (.cells (enc (⟨t.kind, t.text, t.value, (posAt s off).Line, (posAt s off).Col⟩ : Tok)).toArray 53) :: .blk b9 (.cells (enc (⟨(posAt s off).Line, (posAt s off).Col⟩ : PosT)).toArray 25) :: .own (.slice ag ng cg) 53 5 (toks.map enc) :: .blk bp (.cells (enc (⟨0, 0⟩ : PosT)).toArray 25) :: S) w := hw
      repeat (first | refine byW ?_ | (refine byV ?_; intro w hw))
      refine lBuildSlice [enc (⟨t.kind, t.text, t.value, (posAt s off).Line, (posAt s off).Col⟩ : Tok)] ?_
      intro a72 w hw
      refine lApp (i := 3) (rows2 := [enc (⟨t.kind, t.text, t.value, (posAt s off).Line, (posAt s off).Col⟩ : Tok)]) ?_ (Wd.own_rd (i := 0) hw rfl)
      intro v' w hw
      repeat (first | refine byW ?_ | (refine byV ?_; intro w hw))
      have hw : Wd Γ (.own v' 53 5 (toks.map enc ++ [enc (⟨t.kind, t.text, t.value, (posAt s off).Line, (posAt s off).Col⟩ : Tok)]) :: .blk bp (.cells (enc (⟨0, 0⟩ : PosT)).toArray 25) :: S) w := hw.drop.drop.drop
      rw [show toks.map enc ++ [enc (⟨t.kind, t.text, t.value, (posAt s off).Line, (posAt s off).Col⟩ : Tok)] = (toks ++ [(⟨t.kind, t.text, t.value, (posAt s off).Line, (posAt s off).Col⟩ : Tok)]).map enc from by simp] at hw
      exact ⟨f, by omega, off + t.n, start, v', _, by omega, by omega, by omega, by rw [hpn]; show (posAt s off).Col + _ = _; omega, by rw [hpn]; show (posAt s off).Line ≤ _; omega, by simp; omega, ⟨rfl, rfl, rfl, by rw [hpn]; rfl, rfl, rfl, trivial⟩, rfl, by rw [hpn]; exact hl0, hw⟩
  · have h1 : ¬ off < s.size := by simpa using h1
    have hend : scanN s (f + 1) off toks = (toks, ⟨0, 0⟩, 0) := by
      show (if s.size ≤ off then _ else _) = _
      rw [if_pos (by omega)]
    rw [hend]
    repeat (first | refine byW ?_ | (refine byV ?_; intro w hw))
    refine lStore ?_
    intro w hw
    have hw : Wd Γ (.own g 53 5 (toks.map enc) :: .blk bp (.cells (enc (⟨0, 0⟩ : PosT)).toArray 25) :: S) w := hw
    repeat (first | refine byW ?_ | (refine byV ?_; intro w hw))
    exact ⟨[g, .agg (enc (⟨0, 0⟩ : PosT)).toArray, .int .i64 0], ⟨rfl, resC (i := 1) hw rfl rfl rfl, rfl, trivial⟩, _, rfl, hw.dropAt 1⟩
end Go.Proofs.YtimbobmmijgkiaaGreatDoor
end
/- Tokens are read; the position of the end of a text; the scanner's bound. -/
section
open Go Mk
namespace Go.Proofs.YtimbobmmijgkiaaGreatDoor
set_option maxHeartbeats 4000000
attribute [local irreducible] Calls

theorem y_mkIface {P : Program} {d : Option Tmp} {T ty : TypeId} {pos : String} {es : Array Edge} {g : Option (Nat × Bool)} {x : Operand} {ρ : Fr} {w : World} {v : Value} {fs : Array Field} (hu : P.underlying T = some (.struct fs)) (hx : ev ρ x = v) : Mk.Yields P ⟨d, .makeInterface T x, ty, pos, es, g⟩ ρ w (.iface T v) := by
  unfold Mk.Yields; simp [execOp, hx, Instr.makeInterface, run_underlying hu, Result.andThen]
def isS (toks : List Tok) (at' : Nat) (kind : Int) (text : ByteArray) : Bool := match toks[at']? with | some t => decide (t.Kind = kind) && decide (t.Text = text) | none => false
def posOf (toks : List Tok) (at' : Nat) (e : PosT) : PosT := match toks[at']? with | some t => ⟨t.Line, t.Col⟩ | none => e
/-- How a reading of the parser ends: with a value and the number of the next token, or with an error and its position. -/
abbrev PR (α : Type) := Except (PosT × Int) (α × Nat)
def nextP (toks : List Tok) (e : PosT) (kind : Int) (at' : Nat) : PR Tok := match toks[at']? with | some t => if t.Kind = kind then .ok (t, at') else .error (posOf toks at' e, 50) | none => .error (posOf toks at' e, 50)
def expectP (toks : List Tok) (e : PosT) (kind : Int) (text : ByteArray) (at' : Nat) : PR Unit := if isS toks at' kind text = true then .ok ((), at' + 1) else .error (posOf toks at' e, 50)
def nameP (toks : List Tok) (e : PosT) (kind : Int) (at' : Nat) : PR ByteArray := match nextP toks e kind at' with | .ok (t, _) => if 24 < t.Text.size then .error (posOf toks at' e, 63) else .ok (t.Text, at' + 1) | .error q => .error q
def numberP (toks : List Tok) (e : PosT) (limited : Bool) (at' : Nat) : PR Int := match nextP toks e 2 at' with | .ok (t, _) => if limited = true ∧ 2147483647 < t.Value then .error (posOf toks at' e, 6) else .ok (t.Value, at' + 1) | .error q => .error q

theorem nextP_at {toks : List Tok} {e : PosT} {at' : Nat} {kind : Int} {x : Tok} {k : Nat} (h : nextP toks e kind at' = .ok (x, k)) : k = at' ∧ toks[at']? = some x ∧ x.Kind = kind := by
  unfold nextP at h
  cases hg : toks[at']? with
  | none => rw [hg] at h; cases h
  | some t =>
    rw [hg] at h
    by_cases hk : t.Kind = kind
    · simp only [hk, if_true] at h; cases h; exact ⟨rfl, rfl, hk⟩
    · simp only [hk, if_false] at h; cases h
def memB (s : ByteArray) (xs : List ByteArray) : Bool := xs.any fun x => decide (s = x)
def commaB : ByteArray := ⟨#[44]⟩
def semiB : ByteArray := ⟨#[59]⟩
def openB : ByteArray := ⟨#[123]⟩
def closeB : ByteArray := ⟨#[125]⟩
theorem isS_lt {toks : List Tok} {k : Nat} {kind : Int} {text : ByteArray} (h : isS toks k kind text = true) : k < toks.length := by
  unfold isS at h
  cases hg : toks[k]? with
  | none => rw [hg] at h; cases h
  | some t => exact (List.getElem?_eq_some_iff.1 hg).1
theorem numberP_at {toks : List Tok} {e : PosT} {limited : Bool} {k k1 : Nat} {v : Int} (h : numberP toks e limited k = .ok (v, k1)) : k1 = k + 1 ∧ k < toks.length := by
  unfold numberP at h
  cases hN : nextP toks e 2 k with
  | error q => rw [hN] at h; cases h
  | ok q =>
    obtain ⟨x, j⟩ := q
    obtain ⟨rfl, h1, -⟩ := nextP_at hN
    rw [hN] at h
    have hlt := (List.getElem?_eq_some_iff.1 h1).1
    by_cases hc : limited = true ∧ 2147483647 < x.Value
    · simp only [hc, and_self, if_true] at h; cases h
    · dsimp only at h
      rw [if_neg hc] at h
      cases h; exact ⟨rfl, hlt⟩
theorem expectP_at {toks : List Tok} {e : PosT} {kind : Int} {text : ByteArray} {k k1 : Nat} {u : Unit} (h : expectP toks e kind text k = .ok (u, k1)) : k1 = k + 1 ∧ k < toks.length := by
  unfold expectP at h
  by_cases hi : isS toks k kind text = true
  · rw [if_pos hi] at h; cases h; exact ⟨rfl, isS_lt hi⟩
  · rw [if_neg hi] at h; cases h
theorem posLine {s : ByteArray} : ∀ {k : Nat}, k ≤ s.size → (posAt s k).Line = 1 + (((s.data.toList.take k).count 10 : Nat) : Int)
  | 0, _ => by simp [posAt]
  | k + 1, h => by
    have ih := posLine (s := s) (k := k) (by omega)
    have hk : k < s.data.toList.length := by rw [show s.data.toList.length = s.size from by simp]; omega
    obtain ⟨b, hb⟩ : ∃ b, s.data.toList[k]? = some b := ⟨_, List.getElem?_eq_getElem hk⟩
    have hB : byteAt s k = ((b.toNat : Nat) : Int) := by
      show ((s.data.toList.getD k 0).toNat : Int) = _
      rw [List.getD_eq_getElem?_getD, hb]; rfl
    rw [List.take_add_one, hb]
    by_cases h1 : b = 10
    · subst h1
      rw [posAt_nl (by rw [hB]; rfl)]
      simp [ih]; omega
    · have h2 : byteAt s k ≠ 10 := by
        rw [hB]; intro h2
        exact h1 (UInt8.toNat_inj.1 (by simpa using (show b.toNat = 10 by omega)))
      have := posAt_run (s := s) (off := k) 1 (fun i hi => by
        have : i = 0 := by omega
        subst this; exact h2)
      rw [this]
      simp [ih, h1]
theorem posCol {s : ByteArray} {k : Nat} (h : ∀ i, k ≤ i → i < s.size → byteAt s i ≠ 10) (hk : k ≤ s.size) : (posAt s s.size).Col = (posAt s k).Col + ((s.size - k : Nat) : Int) := by
  have := posAt_run (s := s) (off := k) (s.size - k) (fun i hi => h _ (by omega) (by omega))
  rw [show k + (s.size - k) = s.size by omega] at this
  rw [this]
def endP (s : ByteArray) : PosT := posAt s s.size
theorem Last_any (s : ByteArray) (hs : s.size ≤ 4611686018427387904) (w : World) : Calls Tryz.prog 148 #[.string s, .int .u8 10] w fun e w' => e = .returned (.int .i64 ((s.size : Int) - (endP s).Col)) ∧ w' = w := by
  refine calls_of_W Tryz.func148 rfl rfl ?_
  repeat (first | refine byW ?_ | (refine byV ?_; intro w hw))
  refine W_loop (fun μ ρ w' => ∃ (i : Int) (k : Nat), i + 1 = k ∧ μ = k ∧ k ≤ s.size ∧ Has ρ [(0, .string s), (1, .int .u8 10), (5, .int .i64 i)] ∧ (∀ j, k ≤ j → j < s.size → byteAt s j ≠ 10) ∧ w' = w) s.size ⟨(s.size : Int) - 1, s.size, by omega, rfl, Nat.le_refl _, ⟨rfl, rfl, rfl, trivial⟩, fun j h1 h2 => by omega, rfl⟩ ?_
  rintro μ ρ w' ⟨i, k, hik, rfl, hk, hρ, hno, rfl⟩
  rw [hρ.eq]
  repeat (first | refine byW ?_ | (refine byV ?_; intro w hw))
  refine W_cond rfl (fun h => ?_) (fun h => ?_)
  · have h : 0 ≤ i := of_decide_eq_true h
    repeat (first | refine byW ?_ | (refine byV ?_; intro w hw))
    have hi : i.toNat + 1 = μ := by omega
    refine W_cond rfl (fun h2 => ?_) (fun h2 => ?_)
    · have h2 : byteAt s i.toNat = 10 := of_decide_eq_true h2
      repeat (first | refine byW ?_ | (refine byV ?_; intro w hw))
      refine ⟨_, rfl, ?_, rfl⟩
      have h3 := posCol (s := s) (k := μ) hno hk
      have h4 := posAt_nl h2
      rw [hi] at h4
      rw [h4] at h3
      unfold endP
      rw [h3]
      show Ending.returned (.int .i64 i) = _
      congr 2; dsimp; omega
    · have h2 : ¬ byteAt s i.toNat = 10 := of_decide_eq_false h2
      repeat (first | refine byW ?_ | (refine byV ?_; intro w hw))
      refine ⟨i.toNat, by omega, i - 1, i.toNat, by omega, rfl, by omega, ⟨rfl, rfl, rfl, trivial⟩, fun j h3 h4 => ?_, rfl⟩
      by_cases e : j = i.toNat
      · subst e; exact h2
      · exact hno j (by omega) h4
  · have h : ¬ 0 ≤ i := of_decide_eq_false h
    repeat (first | refine byW ?_ | (refine byV ?_; intro w hw))
    refine ⟨_, rfl, ?_, rfl⟩
    have h3 := posCol (s := s) (k := 0) (fun j h1 h2 => hno j (by omega) h2) (by omega)
    unfold endP
    rw [h3]
    show Ending.returned (.int .i64 (-1)) = _
    congr 2; simp [posAt]; omega
theorem ext_Count (s : ByteArray) (c : Int) (w : World) : (callFunc 150 #[.string s, .int .u8 c]).run Tryz.prog w = .ok (.value (.int .i64 (Go.Lib.countByte s.data.toList c.toNat.toUInt8))) w := by
  rw [run_callFunc_extern Tryz.func150 (by kernel_rfl) (by kernel_rfl) (e := Extern.BytealgCount.count) (by kernel_rfl) (by kernel_rfl), Go.Lib.run_countString]
  rfl
theorem pc_CountNl (s : ByteArray) : PC Tryz.prog 101 [.string s, .string ⟨#[10]⟩] (.int .i64 (s.data.toList.count 10 : Nat)) := ⟨fun w => by
  refine calls_of_W Tryz.func101 rfl rfl ?_
  repeat (first | refine byW ?_ | (refine byV ?_; intro w hw))
  refine W_cond rfl (fun h => absurd h (by decide)) (fun _ => ?_)
  repeat (first | refine byW ?_ | (refine byV ?_; intro w hw))
  refine W_cond rfl (fun _ => ?_) (fun h => absurd h (by decide))
  repeat (first | refine byW ?_ | (refine byV ?_; intro w hw))
  refine lY (v := .int .u8 10) ?_ (hy := y_idxS (s := ⟨#[10]⟩) (k := .i64) (i := 0) rfl rfl (by decide) (by decide))
  repeat (first | refine byW ?_ | (refine byV ?_; intro w hw))
  refine lExt (vs := [.string s, .int .u8 10]) (ext_Count s 10) ?_
  repeat (first | refine byW ?_ | (refine byV ?_; intro w hw))
  exact ⟨_, rfl, rfl, rfl⟩⟩
theorem pc_LastNl (s : ByteArray) (hs : s.size ≤ 4611686018427387904) : PC Tryz.prog 100 [.string s, .int .u8 10] (.int .i64 ((s.size : Int) - (endP s).Col)) := ⟨fun w => by
  have hL3 : PC Tryz.prog 148 [.string s, .int .u8 10] (.int .i64 ((s.size : Int) - (endP s).Col)) := ⟨fun w => Last_any s hs w⟩
  refine calls_of_W Tryz.func100 rfl rfl ?_
  repeat (first | refine byW ?_ | (refine byV ?_; intro w hw))
  exact ⟨_, rfl, rfl, rfl⟩⟩
def maxS0 : Nat := 4611686018427387904
theorem resS {P : Program} {Γ : Gho} {S : List Res} {ρ : Fr} {w : World} {t T i b k : Nat} {cs : Array Value} {E : TypeId} {fr : Nat × Nat} {v : Value} [ha : TS P T] (hw : Wd Γ S w) (hi : S[i]? = some (.blk b (.cells cs E fr))) (hx : ρ t = .pointer (some ⟨b, k, none⟩)) (hv : cs[k]? = some v) : ResV P ρ w (.cell t T) v := by
  refine ⟨_, hx, ?_⟩
  have hc := cell_of (hw.at_blk hi) hv
  simp [loadVar, scal_isAgg ha.h, hc, go_sem]
theorem scanN_len {s : ByteArray} : ∀ {f off : Nat} {acc : List Tok}, off ≤ s.size → (scanN s f off acc).1.length ≤ acc.length + (s.size - off)
  | 0, off, acc, h => by simp [scanN]
  | f + 1, off, acc, h => by
    unfold scanN
    split
    · simp
    · rename_i h1
      split
      · have := scanN_len (s := s) (f := f) (off := off + 1) (acc := acc) (by omega)
        omega
      · split
        · have h2 : off ≤ skipN s off ∧ skipN s off ≤ s.size := by
            unfold skipN
            have : (((bts s).drop off).takeWhile fun b => decide ((b.toNat : Int) ≠ 10)).length ≤ ((bts s).drop off).length := (List.takeWhile_sublist _).length_le
            rw [List.length_drop, bts_len] at this
            omega
          have := scanN_len (s := s) (f := f) (off := skipN s off) (acc := acc) h2.2
          omega
        · split
          · rename_i h4
            have hsz : (bSub s off s.size).size = s.size - off := sub_size (Nat.le_refl _)
            obtain ⟨a1, a2, -⟩ := tok_ok (s := bSub s off s.size) (by omega) h4
            have := scanN_len (s := s) (f := f) (off := off + (tokS (bSub s off s.size)).n) (acc := acc ++ [⟨(tokS (bSub s off s.size)).kind, (tokS (bSub s off s.size)).text, (tokS (bSub s off s.size)).value, (posAt s off).Line, (posAt s off).Col⟩]) (by omega)
            simp at this; omega
          · simp
theorem scanS_len {s : ByteArray} : (scanS s).1.length ≤ 65536 := by
  unfold scanS
  split
  · simp
  · have := scanN_len (s := s) (f := s.size + 1) (off := 0) (acc := []) (by omega)
    simp at this; omega
class RTok (Γ : Gho) (a : Option Addr) (n c : Nat) (toks : outParam (List Tok)) : Prop where
  h : RepS Γ (.slice a n c) 5 (toks.map enc)
  big : n ≤ 1000000
theorem RTok.len {Γ : Gho} {a : Option Addr} {n c : Nat} {toks : List Tok} (h : RTok Γ a n c toks) : n = toks.length ∧ n ≤ c ∧ c ≤ 9223372036854775807 := by
  obtain ⟨_, _, _, h1, h2, h3⟩ := h.h.shape
  cases h1
  exact ⟨by simpa using h2, h3⟩
theorem RTok.mono {Γ Γ' : Gho} {a : Option Addr} {n c : Nat} {toks : List Tok} (h : RTok Γ a n c toks) (hle : Γ.le Γ') : RTok Γ' a n c toks := ⟨h.h.mono hle, h.big⟩
class IB (I : Nat) : Prop where h : I ≤ 1000000
def kindS (toks : List Tok) (k : Nat) (kind : Int) : Bool := match toks[k]? with | some t => decide (t.Kind = kind) | none => false
class SZ (s : ByteArray) : Prop where h : s.size ≤ 4611686018427387904
theorem RTok.of {Γ : Gho} {a : Option Addr} {n c : Nat} {toks : List Tok} (h : RepS Γ (.slice a n c) 5 (toks.map enc)) (hb : n ≤ 1000000) : RTok Γ a n c toks := ⟨h, hb⟩
end Go.Proofs.YtimbobmmijgkiaaGreatDoor
end
/- Texts that are made of tokens: the scanner finds them (no program in sight). -/
section
open Go Mk
namespace Go.Proofs.YtimbobmmijgkiaaGreatDoor
set_option maxHeartbeats 4000000
attribute [local irreducible] Calls

theorem bts_ap (a b : ByteArray) : bts (a ++ b) = bts a ++ bts b := by
  unfold bts
  rw [ByteArray.data_append, Array.toList_append]
theorem bts_mk (l : List UInt8) : bts ⟨l.toArray⟩ = l := by unfold bts; simp
abbrev Tri := Int × ByteArray × Int
def tri (t : Tok) : Tri := (t.Kind, t.Text, t.Value)
def mkB (l : List UInt8) : ByteArray := ⟨l.toArray⟩
theorem mkB_bts (s : ByteArray) : mkB (bts s) = s := bts_ext (bts_mk _)
theorem mkB_size (l : List UInt8) : (mkB l).size = l.length := by rw [← bts_len]; unfold mkB; rw [bts_mk]
/-- A text that falls into these tokens. -/
inductive Tz : List UInt8 → List Tri → Prop
  | nil : Tz [] []
  | sp {c : UInt8} {l : List UInt8} {ks : List Tri} : spaceB c.toNat = true → Tz l ks → Tz (c :: l) ks
  | tok {c : UInt8} {p l : List UInt8} {k : Int} {t : ByteArray} {v : Nat} {ks : List Tri} : spaceB c.toNat = false → (c.toNat : Int) ≠ 35 → tokS (mkB ((c :: p) ++ l)) = ⟨k, t, v, (c :: p).length, 0⟩ → Tz l ks → Tz ((c :: p) ++ l) ((k, t, v) :: ks)
theorem byte_drop {s : ByteArray} {off : Nat} {c : UInt8} {l : List UInt8} (h : (bts s).drop off = c :: l) : byteAt s off = c.toNat := by
  have h1 : (bts s)[off]? = some c := by
    have := List.getElem?_drop (xs := bts s) (i := off) (j := 0)
    rw [h] at this
    simpa using this.symm
  show (((bts s).getD off 0).toNat : Int) = _
  rw [List.getD_eq_getElem?_getD, h1]; rfl
theorem sub_drop {s : ByteArray} {off : Nat} : bSub s off s.size = mkB ((bts s).drop off) := by
  refine bts_ext ?_
  rw [bts_sub]
  unfold mkB
  rw [bts_mk, List.take_of_length_le (by rw [List.length_drop, bts_len]; exact Nat.le_refl _)]
theorem drop_lt {s : ByteArray} {off : Nat} {c : UInt8} {l : List UInt8} (h : (bts s).drop off = c :: l) : off < s.size := by
  have := congrArg List.length h
  rw [List.length_drop, bts_len, List.length_cons] at this
  omega
theorem scan_of {s : ByteArray} : ∀ {l : List UInt8} {ks : List Tri}, Tz l ks → ∀ (f off : Nat) (acc : List Tok), (bts s).drop off = l → l.length < f → ∃ toks, toks.map tri = ks ∧ scanN s f off acc = (acc ++ toks, ⟨0, 0⟩, 0) := by
  intro l ks h
  induction h with
  | nil =>
    intro f off acc hd hf
    obtain ⟨f, rfl⟩ : ∃ f', f = f' + 1 := ⟨f - 1, by omega⟩
    refine ⟨[], rfl, ?_⟩
    have : s.size ≤ off := by
      have := congrArg List.length hd
      rw [List.length_drop, bts_len] at this
      simp at this; omega
    unfold scanN
    rw [if_pos this, List.append_nil]
  | @sp c l ks hc _ ih =>
    intro f off acc hd hf
    rw [List.length_cons] at hf
    obtain ⟨f, rfl⟩ : ∃ f', f = f' + 1 := ⟨f - 1, by omega⟩
    have hlt := drop_lt hd
    obtain ⟨toks, h1, h2⟩ := ih f (off + 1) acc (by rw [← List.drop_drop, hd]; rfl) (by omega)
    refine ⟨toks, h1, ?_⟩
    unfold scanN
    rw [if_neg (by omega), byte_drop hd, if_pos hc, h2]
  | @tok c p l k t v ks hc h35 ht _ ih =>
    intro f off acc hd hf
    rw [List.length_append] at hf
    have hp : 0 < (c :: p).length := by simp
    obtain ⟨f, rfl⟩ : ∃ f', f = f' + 1 := ⟨f - 1, by omega⟩
    have hd' : (bts s).drop off = c :: (p ++ l) := hd
    have hlt := drop_lt hd'
    obtain ⟨toks, h1, h2⟩ := ih f (off + (c :: p).length) (acc ++ [⟨k, t, v, (posAt s off).Line, (posAt s off).Col⟩]) (by rw [← List.drop_drop, hd, List.drop_left]) (by omega)
    refine ⟨⟨k, t, v, (posAt s off).Line, (posAt s off).Col⟩ :: toks, by rw [List.map_cons, h1]; rfl, ?_⟩
    unfold scanN
    rw [if_neg (by omega), byte_drop hd', if_neg (by rw [hc]; decide), if_neg h35, sub_drop, hd, ht, if_pos rfl]
    dsimp only
    rw [h2, List.append_assoc]; rfl
theorem scanS_of {l : List UInt8} {ks : List Tri} (h : Tz l ks) (hl : l.length ≤ 65536) : ∃ toks, toks.map tri = ks ∧ scanS (mkB l) = (toks, ⟨0, 0⟩, 0) := by
  obtain ⟨toks, h1, h2⟩ := scan_of (s := mkB l) h ((mkB l).size + 1) 0 [] (by unfold mkB; rw [bts_mk]; rfl) (by rw [mkB_size]; omega)
  refine ⟨toks, h1, ?_⟩
  unfold scanS
  rw [if_neg (by rw [mkB_size]; omega), h2]; rfl
/-! ### tokens -/
def noW (l : List UInt8) : Prop := match l with | [] => True | c :: _ => wordC c = false
theorem run_of {p l : List UInt8} (hp : p.all wordC = true) (hl : noW l) : runN (mkB (p ++ l)) = p.length := by
  unfold runN
  show ((bts (mkB (p ++ l))).takeWhile wordC).length = _
  unfold mkB
  rw [bts_mk]
  have : (p ++ l).takeWhile wordC = p := by
    rw [List.takeWhile_append_of_pos (fun x hx => List.all_eq_true.1 hp x hx)]
    cases l with
    | nil => simp
    | cons c l => have hl : wordC c = false := hl; simp [hl]
  rw [this]
theorem sub_pre {p l : List UInt8} : bSub (mkB (p ++ l)) 0 p.length = mkB p := by
  refine bts_ext ?_
  unfold mkB
  rw [bts_sub, bts_mk, bts_mk, List.drop_zero, Nat.sub_zero, List.take_left]
theorem byte0 {c : UInt8} {l : List UInt8} : byteAt (mkB (c :: l)) 0 = c.toNat := rfl
theorem tkz_word {c : UInt8} {p l : List UInt8} (hc : letterB c.toNat = true) (hp : (c :: p).all wordC = true) (hl : noW l) : tokS (mkB ((c :: p) ++ l)) = ⟨1, mkB (c :: p), 0, (c :: p).length, 0⟩ := by
  unfold tokS
  rw [if_pos (show letterB (byteAt (mkB ((c :: p) ++ l)) 0) = true from hc), run_of hp hl, sub_pre]
theorem tkz_pun1 {c : UInt8} {l : List UInt8} (hc : c = 40 ∨ c = 41 ∨ c = 44) : tokS (mkB ([c] ++ l)) = ⟨4, mkB [c], 0, 1, 0⟩ := by
  have hs : (mkB ([c] ++ l)).size = l.length + 1 := by rw [mkB_size]; simp
  have hb : byteAt (mkB ([c] ++ l)) 0 = c.toNat := rfl
  have h2 : ∀ b, two2 c.toNat b = false := fun b => by rcases hc with q | q | q <;> subst q <;> unfold two2 <;> simp
  have hP : punctN (mkB ([c] ++ l)) = 1 := by
    unfold punctN
    rw [hb, h2, if_neg (by simp), if_pos ⟨by omega, by show c ∈ oneB; rcases hc with q | q | q <;> subst q <;> decide⟩]
  unfold tokS
  rw [hP, hb, if_neg (by rcases hc with q | q | q <;> subst q <;> decide), if_neg (by rcases hc with q | q | q <;> subst q <;> decide), if_neg (by rcases hc with q | q | q <;> subst q <;> decide), if_neg (by decide)]
  rw [show bSub (mkB ([c] ++ l)) 0 1 = mkB [c] from sub_pre (p := [c])]
theorem tkz_pun2 {c d : UInt8} {l : List UInt8} (hc : (c = 46 ∧ d = 10) ∨ (c = 45 ∧ digitB d.toNat = true)) : tokS (mkB ([c] ++ d :: l)) = ⟨4, mkB [c], 0, 1, 0⟩ := by
  have hs : (mkB ([c] ++ d :: l)).size = l.length + 2 := by rw [mkB_size]; simp
  have hb : byteAt (mkB ([c] ++ d :: l)) 0 = c.toNat := rfl
  have hb1 : byteAt (mkB ([c] ++ d :: l)) 1 = d.toNat := rfl
  have h2 : two2 c.toNat d.toNat = false := by
    rcases hc with ⟨q, r⟩ | ⟨q, r⟩
    · subst q; subst r; decide
    · subst q
      unfold digitB at r
      simp only [Bool.and_eq_true, decide_eq_true_eq] at r
      unfold two2
      simp
      omega
  have hP : punctN (mkB ([c] ++ d :: l)) = 1 := by
    unfold punctN
    rw [hb, hb1, h2, if_neg (by simp), if_pos ⟨by omega, by show c ∈ oneB; rcases hc with ⟨q, -⟩ | ⟨q, -⟩ <;> subst q <;> decide⟩]
  unfold tokS
  rw [hP, hb, if_neg (by rcases hc with ⟨q, -⟩ | ⟨q, -⟩ <;> subst q <;> decide), if_neg (by rcases hc with ⟨q, -⟩ | ⟨q, -⟩ <;> subst q <;> decide), if_neg (by rcases hc with ⟨q, -⟩ | ⟨q, -⟩ <;> subst q <;> decide), if_neg (by decide)]
  rw [show bSub (mkB ([c] ++ d :: l)) 0 1 = mkB [c] from sub_pre (p := [c])]
theorem tkz_str {p l : List UInt8} (hp : p.all inStrC = true) : tokS (mkB ((34 :: (p ++ [34])) ++ l)) = ⟨3, mkB p, 0, (34 :: (p ++ [34])).length, 0⟩ := by
  have hB : bts (mkB ((34 :: (p ++ [34])) ++ l)) = 34 :: (p ++ 34 :: l) := by unfold mkB; rw [bts_mk]; simp
  have hS : strN (mkB ((34 :: (p ++ [34])) ++ l)) = p.length + 1 := by
    unfold strN
    rw [hB]
    have : ((34 :: (p ++ 34 :: l)).drop 1).takeWhile inStrC = p := by
      rw [List.drop_succ_cons, List.drop_zero, List.takeWhile_append_of_pos (fun x hx => List.all_eq_true.1 hp x hx)]
      have : inStrC 34 = false := by decide
      simp [this]
    rw [this]; omega
  have hz : (mkB ((34 :: (p ++ [34])) ++ l)).size = p.length + 2 + l.length := by rw [mkB_size]; simp; omega
  have hq : byteAt (mkB ((34 :: (p ++ [34])) ++ l)) (p.length + 1) = 34 := by
    refine byte_drop (c := 34) (l := l) ?_
    rw [hB, List.drop_succ_cons, List.drop_left]
  unfold tokS
  rw [show byteAt (mkB ((34 :: (p ++ [34])) ++ l)) 0 = 34 from rfl, if_neg (by decide), if_neg (by decide), if_pos rfl, hS, if_pos ⟨by omega, hq⟩]
  congr 1
  · refine bts_ext ?_
    rw [bts_sub, hB]
    unfold mkB
    rw [bts_mk, List.drop_succ_cons, List.drop_zero, Nat.add_sub_cancel, List.take_left]
  · simp
theorem dig_toNat {d : Nat} (h : d < 10) : (UInt8.ofNat (48 + d)).toNat = 48 + d := by
  rw [UInt8.toNat_ofNat']
  exact Nat.mod_eq_of_lt (by omega)
theorem dec_dig : ∀ (u : Nat), ∀ c ∈ Lib.decDigits u, ∃ d, d < 10 ∧ c = UInt8.ofNat (48 + d) := by
  intro u
  induction u using Nat.strongRecOn with
  | _ u ih =>
    intro c hc
    rw [Lib.decDigits] at hc
    split at hc
    · rename_i h
      exact ⟨u, h, List.mem_singleton.1 hc⟩
    · rename_i h
      rcases List.mem_append.1 hc with q | q
      · exact ih (u / 10) (by omega) c q
      · exact ⟨u % 10, by omega, List.mem_singleton.1 q⟩
theorem dec_head : ∀ (u : Nat), ∃ d p, d < 10 ∧ Lib.decDigits u = UInt8.ofNat (48 + d) :: p ∧ (d = 0 → p = []) := by
  intro u
  induction u using Nat.strongRecOn with
  | _ u ih =>
    rw [Lib.decDigits]
    split
    · rename_i h
      exact ⟨u, [], h, rfl, fun _ => rfl⟩
    · rename_i h
      obtain ⟨d, p, h1, h2, h3⟩ := ih (u / 10) (by omega)
      refine ⟨d, p ++ [UInt8.ofNat (48 + u % 10)], h1, by rw [h2]; rfl, fun q => ?_⟩
      exfalso
      have h4 := h3 q
      rw [q, h4, Lib.decDigits] at h2
      split at h2
      · rename_i h5
        have h6 := List.cons.inj h2
        have := congrArg UInt8.toNat h6.1
        rw [dig_toNat h5, dig_toNat (by omega)] at this
        omega
      · have := congrArg List.length h2
        have h7 := Lib.nDigits_pos (u / 10 / 10)
        rw [List.length_append, Lib.decDigits_length] at this
        simp at this; omega
theorem digV_dec {d : Nat} (h : d < 10) : digV ((UInt8.ofNat (48 + d)).toNat : Int) 10 = d := by
  rw [dig_toNat h]
  have hd : digitB ((48 + d : Nat) : Int) = true := by
    unfold digitB
    rw [Bool.and_eq_true, decide_eq_true_eq, decide_eq_true_eq]; omega
  unfold digV hexV
  rw [if_pos hd, if_neg (by omega)]; omega
theorem valL_snoc (b : Nat) (c : UInt8) : ∀ (l : List UInt8) (v : Nat), valL b (l ++ [c]) v = valL b l v * b + (digV c.toNat b).toNat
  | [], v => rfl
  | x :: l, v => valL_snoc b c l _
theorem valL_dec : ∀ u : Nat, valL 10 (Lib.decDigits u) 0 = u := by
  intro u
  induction u using Nat.strongRecOn with
  | _ u ih =>
    rw [Lib.decDigits]
    split
    · rename_i h
      show 0 * 10 + (digV ((UInt8.ofNat (48 + u)).toNat : Int) ((10 : Nat) : Int)).toNat = u
      rw [show ((10 : Nat) : Int) = 10 from rfl, digV_dec h]; omega
    · rename_i h
      rw [valL_snoc, ih (u / 10) (by omega), show ((10 : Nat) : Int) = 10 from rfl, digV_dec (by omega)]; omega
theorem dig_word {d : Nat} (h : d < 10) : letterB ((UInt8.ofNat (48 + d)).toNat : Int) = false ∧ digitB ((UInt8.ofNat (48 + d)).toNat : Int) = true ∧ sufK ((UInt8.ofNat (48 + d)).toNat : Int) = 0 ∧ ((UInt8.ofNat (48 + d)).toNat : Int) ≠ 120 := by
  rw [dig_toNat h]
  refine ⟨?_, ?_, ?_, by omega⟩
  · unfold letterB
    rw [decide_eq_false (show ¬ (97 : Int) ≤ ((48 + d : Nat) : Int) by omega), decide_eq_false (show ¬ (65 : Int) ≤ ((48 + d : Nat) : Int) by omega), decide_eq_false (show ¬ ((48 + d : Nat) : Int) = 95 by omega)]; rfl
  · unfold digitB
    rw [Bool.and_eq_true, decide_eq_true_eq, decide_eq_true_eq]; omega
  · unfold sufK
    rw [if_neg (by omega), if_neg (by omega), if_neg (by omega)]
theorem dec_word (u : Nat) : (Lib.decDigits u).all wordC = true := List.all_eq_true.2 fun c hc => by
  obtain ⟨d, h, rfl⟩ := dec_dig u c hc
  obtain ⟨h1, h2, -, -⟩ := dig_word h
  unfold wordC
  rw [h1, h2]; rfl
theorem byte_mem {l : List UInt8} {i : Nat} (h : i < l.length) : ∃ c ∈ l, byteAt (mkB l) i = c.toNat := by
  refine ⟨l[i], List.getElem_mem h, ?_⟩
  show (((bts (mkB l)).getD i 0).toNat : Int) = _
  unfold mkB
  rw [bts_mk, List.getD_eq_getElem?_getD, List.getElem?_eq_getElem h]; rfl
theorem num_dec {u : Nat} (hu : u ≤ 18446744073709551615) : numS (mkB (Lib.decDigits u)) = (u, 0) := by
  obtain ⟨d, p, hd, hp, h0⟩ := dec_head u
  have hl : 0 < (Lib.decDigits u).length := by rw [hp]; simp
  obtain ⟨c, hc, hb⟩ := byte_mem (l := Lib.decDigits u) (i := (Lib.decDigits u).length - 1) (by omega)
  have hsz := mkB_size (Lib.decDigits u)
  have hsh : sufK (byteAt (mkB (Lib.decDigits u)) ((mkB (Lib.decDigits u)).size - 1)) = 0 := by
    rw [hsz, hb]
    obtain ⟨d2, h2, rfl⟩ := dec_dig u c hc
    exact (dig_word h2).2.2.1
  have hno : ¬ (2 ≤ (mkB (Lib.decDigits u)).size ∧ byteAt (mkB (Lib.decDigits u)) 0 = 48 ∧ byteAt (mkB (Lib.decDigits u)) 1 = 120) := fun q => by
    obtain ⟨c2, hc2, hb2⟩ := byte_mem (l := Lib.decDigits u) (i := 1) (by omega)
    obtain ⟨d2, h2, rfl⟩ := dec_dig u c2 hc2
    exact (dig_word h2).2.2.2 (hb2.symm.trans q.2.2)
  have hlz : ¬ ((mkB (Lib.decDigits u)).size = 0 ∨ (1 < (mkB (Lib.decDigits u)).size ∧ byteAt (mkB (Lib.decDigits u)) 0 = 48)) := fun q => by
    rcases q with q | ⟨q1, q2⟩
    · omega
    · have hb0 : byteAt (mkB (Lib.decDigits u)) 0 = ((UInt8.ofNat (48 + d)).toNat : Int) := by rw [hp]; rfl
      rw [hb0, dig_toNat hd] at q2
      have := h0 (by omega)
      rw [hsz, hp, this] at q1
      simp at q1
  have hall : (Lib.decDigits u).all (fun c => decide (0 ≤ digV c.toNat ((10 : Nat) : Int))) = true := List.all_eq_true.2 fun c hc => by
    obtain ⟨d2, h2, rfl⟩ := dec_dig u c hc
    rw [show ((10 : Nat) : Int) = 10 from rfl, digV_dec h2]
    exact decide_eq_true (by omega)
  have hcore : numCore 10 0 (Lib.decDigits u) = (u, 0) := by
    unfold numCore
    rw [hall, if_neg (by decide), valL_dec, if_neg (by show ¬ 18446744073709551615 >>> 0 < u; rw [Nat.shiftRight_zero]; omega), Nat.shiftLeft_zero]
  unfold numS
  simp only [hsh]
  rw [if_neg (show ¬ (0 : Nat) < 0 by decide), if_neg hno, if_neg hlz]
  unfold mkB
  rw [bts_mk]
  exact hcore
theorem tkz_num {u : Nat} (hu : u ≤ 18446744073709551615) {l : List UInt8} (hl : noW l) : tokS (mkB (Lib.decDigits u ++ l)) = ⟨2, ⟨#[]⟩, u, (Lib.decDigits u).length, 0⟩ := by
  have hr := run_of (dec_word u) hl
  have hs : bSub (mkB (Lib.decDigits u ++ l)) 0 (Lib.decDigits u).length = mkB (Lib.decDigits u) := sub_pre
  have hn := num_dec hu
  obtain ⟨d, p, hd, hp, -⟩ := dec_head u
  have hb : byteAt (mkB (Lib.decDigits u ++ l)) 0 = ((UInt8.ofNat (48 + d)).toNat : Int) := by rw [hp]; rfl
  obtain ⟨h1, h2, -, -⟩ := dig_word hd
  unfold tokS
  rw [hr, hs, hn, hb, if_neg (by rw [h1]; decide), if_pos h2, if_pos rfl]
theorem Tz.word {t : ByteArray} {l : List UInt8} {ks : List Tri} (ht : wordS t = true) (hl : noW l) (h : Tz l ks) : Tz (bts t ++ l) ((1, t, 0) :: ks) := by
  unfold wordS at ht
  simp only [Bool.and_eq_true, decide_eq_true_eq] at ht
  obtain ⟨⟨h0, h1⟩, h2⟩ := ht
  have hb : 0 < (bts t).length := by rw [bts_len]; exact h0
  have h1 : letterB (((bts t).getD 0 0).toNat : Int) = true := h1
  have h2 : (bts t).all wordC = true := h2
  have hm := mkB_bts t
  generalize bts t = b at *
  cases b with
  | nil => simp at hb
  | cons c p =>
    have hc : letterB (c.toNat : Int) = true := h1
    have hk := tkz_word hc h2 hl
    rw [hm] at hk
    have hsp : spaceB (c.toNat : Int) = false ∧ (c.toNat : Int) ≠ 35 := by
      unfold letterB at hc
      simp only [Bool.or_eq_true, Bool.and_eq_true, decide_eq_true_eq] at hc
      unfold spaceB
      simp only [Bool.or_eq_false_iff, decide_eq_false_iff_not]
      omega
    exact Tz.tok (v := 0) hsp.1 hsp.2 hk h
theorem Tz.num {u : Nat} (hu : u ≤ 18446744073709551615) {l : List UInt8} {ks : List Tri} (hl : noW l) (h : Tz l ks) : Tz (Lib.decDigits u ++ l) ((2, ⟨#[]⟩, (u : Nat)) :: ks) := by
  have hk := tkz_num hu hl
  obtain ⟨d, p, hd, hp, -⟩ := dec_head u
  rw [hp] at hk ⊢
  refine Tz.tok (v := u) ?_ ?_ hk h
  · rw [dig_toNat hd]; unfold spaceB; simp only [Bool.or_eq_false_iff, decide_eq_false_iff_not]; omega
  · rw [dig_toNat hd]; omega
theorem Tz.p1 {c : UInt8} {l : List UInt8} {ks : List Tri} (hc : c = 40 ∨ c = 41 ∨ c = 44) (h : Tz l ks) : Tz (c :: l) ((4, mkB [c], 0) :: ks) :=
  Tz.tok (c := c) (p := []) (v := 0) (by rcases hc with q | q | q <;> subst q <;> decide) (by rcases hc with q | q | q <;> subst q <;> decide) (tkz_pun1 hc) h
theorem Tz.p2 {c d : UInt8} {l : List UInt8} {ks : List Tri} (hc : (c = 46 ∧ d = 10) ∨ (c = 45 ∧ digitB d.toNat = true)) (h : Tz (d :: l) ks) : Tz (c :: d :: l) ((4, mkB [c], 0) :: ks) :=
  Tz.tok (c := c) (p := []) (v := 0) (by rcases hc with ⟨q, -⟩ | ⟨q, -⟩ <;> subst q <;> decide) (by rcases hc with ⟨q, -⟩ | ⟨q, -⟩ <;> subst q <;> decide) (tkz_pun2 hc) h
theorem Tz.str {t : ByteArray} {l : List UInt8} {ks : List Tri} (ht : (bts t).all inStrC = true) (h : Tz l ks) : Tz ((34 :: (bts t ++ [34])) ++ l) ((3, t, 0) :: ks) := by
  have hk := tkz_str (l := l) (p := bts t) ht
  rw [mkB_bts] at hk
  exact Tz.tok (v := 0) (by decide) (by decide) hk h
end Go.Proofs.YtimbobmmijgkiaaGreatDoor
end
/- Tokens written one behind another are scanned as these tokens (no program in sight). -/
section
open Go Mk
namespace Go.Proofs.YtimbobmmijgkiaaGreatDoor
set_option maxHeartbeats 1000000
attribute [local irreducible] Calls

def PunOk (p : List UInt8) : Prop := (∃ c, p = [c] ∧ c ∈ oneB) ∨ ∃ c d, p = [c, d] ∧ two2 c.toNat d.toNat = true
/-- A token as the scanner makes it. -/
def TokIn (t : Tok) : Prop := (t.Kind = 1 ∧ wordS t.Text = true ∧ t.Value = 0) ∨ (t.Kind = 2 ∧ t.Text = ⟨#[]⟩ ∧ ∃ u : Nat, u ≤ 18446744073709551615 ∧ t.Value = (u : Nat)) ∨ (t.Kind = 3 ∧ (bts t.Text).all inStrC = true ∧ t.Value = 0) ∨ (t.Kind = 4 ∧ PunOk (bts t.Text) ∧ t.Value = 0)
/-- Its text. -/
def txtT (t : Tok) : List UInt8 := if t.Kind = 2 then Lib.decDigits t.Value.toNat else if t.Kind = 3 then 34 :: (bts t.Text ++ [34]) else bts t.Text
def layT : List Tok → List UInt8
  | [] => []
  | [t] => txtT t
  | t :: u :: ts => txtT t ++ 32 :: layT (u :: ts)
def sepd (l : List UInt8) : Prop := l = [] ∨ ∃ r, l = 32 :: r
theorem sepd.noW {l : List UInt8} (h : sepd l) : noW l := by
  rcases h with rfl | ⟨r, rfl⟩
  · trivial
  · show wordC 32 = false
    decide
theorem two2_sp (a : Int) : two2 a 32 = false := by unfold two2; simp
theorem oneB_ok : ∀ c ∈ oneB, letterB (c.toNat : Int) = false ∧ digitB (c.toNat : Int) = false ∧ (c.toNat : Int) ≠ 34 ∧ spaceB (c.toNat : Int) = false ∧ (c.toNat : Int) ≠ 35 := by decide
theorem two2_one {c d : UInt8} (h : two2 c.toNat d.toNat = true) : c ∈ oneB := by
  unfold two2 at h
  simp only [Bool.or_eq_true, Bool.and_eq_true, decide_eq_true_eq] at h
  have hc : c.toNat = 60 ∨ c.toNat = 62 ∨ c.toNat = 33 ∨ c.toNat = 46 ∨ c.toNat = 45 := by omega
  have key : ∀ k : Nat, k < 256 → c.toNat = k → c = UInt8.ofNat k := fun k hk e => UInt8.toNat_inj.1 (by rw [UInt8.toNat_ofNat', Nat.mod_eq_of_lt (by omega)]; exact e)
  rcases hc with q | q | q | q | q <;> rw [key _ (by decide) q] <;> decide
theorem tkz_pun {c : UInt8} {p l : List UInt8} (hp : PunOk (c :: p)) (hl : sepd l) : tokS (mkB ((c :: p) ++ l)) = ⟨4, mkB (c :: p), 0, (c :: p).length, 0⟩ ∧ spaceB (c.toNat : Int) = false ∧ (c.toNat : Int) ≠ 35 := by
  have hb : byteAt (mkB ((c :: p) ++ l)) 0 = c.toNat := rfl
  have hz : (mkB ((c :: p) ++ l)).size = p.length + 1 + l.length := by rw [mkB_size]; simp; omega
  have hP : punctN (mkB ((c :: p) ++ l)) = (c :: p).length ∧ c ∈ oneB := by
    rcases hp with ⟨c', e, hc⟩ | ⟨c', d, e, h2⟩
    · obtain ⟨rfl, rfl⟩ := List.cons.inj e
      refine ⟨?_, hc⟩
      unfold punctN
      rw [if_neg (by
        rintro ⟨q1, q2⟩
        rcases hl with rfl | ⟨r, rfl⟩
        · rw [hz] at q1; simp at q1
        · have : byteAt (mkB ([c] ++ 32 :: r)) 1 = 32 := rfl
          rw [this, two2_sp] at q2; cases q2), if_pos ⟨by rw [hz]; omega, hc⟩]; rfl
    · obtain ⟨rfl, e2⟩ := List.cons.inj e
      subst e2
      refine ⟨?_, two2_one h2⟩
      unfold punctN
      rw [if_pos ⟨by rw [hz]; show 2 ≤ 1 + 1 + l.length; omega, h2⟩]; rfl
  obtain ⟨hP1, hc⟩ := hP
  obtain ⟨k1, k2, k3, k4, k5⟩ := oneB_ok c hc
  refine ⟨?_, k4, k5⟩
  unfold tokS
  rw [hP1, hb, if_neg (by rw [k1]; decide), if_neg (by rw [k2]; decide), if_neg k3, if_neg (by simp), sub_pre]
theorem Tz.one {t : Tok} (ht : TokIn t) {l : List UInt8} {ks : List Tri} (hl : sepd l) (h : Tz l ks) : Tz (txtT t ++ l) (tri t :: ks) := by
  obtain ⟨kd, tx, v, ln, cl⟩ := t
  unfold TokIn at ht
  unfold txtT tri
  dsimp only at ht ⊢
  rcases ht with ⟨rfl, h1, rfl⟩ | ⟨rfl, rfl, u, hu, rfl⟩ | ⟨rfl, h1, rfl⟩ | ⟨rfl, h1, rfl⟩
  · rw [if_neg (by decide), if_neg (by decide)]
    exact Tz.word h1 hl.noW h
  · rw [if_pos rfl]
    exact Tz.num hu hl.noW h
  · rw [if_neg (by decide), if_pos rfl]
    exact Tz.str h1 h
  · rw [if_neg (by decide), if_neg (by decide)]
    have hm := mkB_bts tx
    generalize bts tx = b at *
    cases b with
    | nil => rcases h1 with ⟨c, e, -⟩ | ⟨c, d, e, -⟩ <;> cases e
    | cons c p =>
      obtain ⟨k1, k2, k3⟩ := tkz_pun (p := p) h1 hl
      rw [hm] at k1
      exact Tz.tok (v := 0) k2 k3 k1 h
theorem Tz.lay : ∀ {ts : List Tok}, (∀ t ∈ ts, TokIn t) → Tz (layT ts) (ts.map tri)
  | [], _ => Tz.nil
  | [t], h => by
    have := Tz.one (h t (by simp)) (.inl rfl) Tz.nil
    rw [List.append_nil] at this
    exact this
  | t :: u :: ts, h => Tz.one (h t (by simp)) (.inr ⟨_, rfl⟩) (Tz.sp (by decide) (Tz.lay fun x hx => h x (List.mem_cons_of_mem _ hx)))
/-! ### what the scanner makes -/
theorem bts_pre0 {s : ByteArray} {k : Nat} : bts (bSub s 0 k) = (bts s).take k := by rw [bts_sub, List.drop_zero, Nat.sub_zero]
theorem shl_le {x m sh : Nat} (h : ¬ m >>> sh < x) : x <<< sh ≤ m := by
  rw [Nat.shiftLeft_eq]
  rw [Nat.shiftRight_eq_div_pow] at h
  exact Nat.le_trans (Nat.mul_le_mul_right _ (Nat.le_of_not_lt h)) (Nat.div_mul_le_self _ _)
theorem pair_le {c : Prop} [Decidable c] {a b : Nat × Int} {m : Nat} (ha : a.1 ≤ m) (hb : ¬ c → b.1 ≤ m) : (if c then a else b).1 ≤ m := by
  by_cases h : c
  · rw [if_pos h]; exact ha
  · rw [if_neg h]; exact hb h
theorem zer_le {x : Int} {m : Nat} : ((0, x) : Nat × Int).1 ≤ m := Nat.zero_le _
theorem numCore_le {b sh : Nat} {l : List UInt8} : (numCore b sh l).1 ≤ most64 := by
  unfold numCore
  exact pair_le zer_le fun _ => pair_le zer_le fun h => shl_le h
theorem numS_le0 (s : ByteArray) : (numS s).1 ≤ most64 := by
  unfold numS
  exact pair_le (pair_le zer_le fun _ => numCore_le) fun _ => pair_le zer_le fun _ => numCore_le
theorem numS_le (s : ByteArray) : (numS s).1 ≤ 18446744073709551615 := numS_le0 s
theorem word_run {s : ByteArray} (h0 : 0 < s.size) (h1 : letterB (byteAt s 0) = true) : wordS (bSub s 0 (runN s)) = true := by
  have hl : 0 < (bts s).length := by rw [bts_len]; exact h0
  have htw : bts (bSub s 0 (runN s)) = (bts s).takeWhile wordC := by
    rw [bts_pre0]
    unfold runN
    exact (List.prefix_iff_eq_take.1 (List.takeWhile_prefix wordC)).symm
  have h1' : letterB (((bts s).getD 0 0).toNat : Int) = true := h1
  unfold wordS
  show (decide (0 < (bSub s 0 (runN s)).size) && letterB (((bts (bSub s 0 (runN s))).getD 0 0).toNat : Int) && (bts (bSub s 0 (runN s))).all wordC) = true
  rw [← bts_len, htw]
  generalize bts s = b at *
  cases b with
  | nil => simp at hl
  | cons c p =>
    have hc : letterB (c.toNat : Int) = true := h1'
    have hw : wordC c = true := by unfold wordC; rw [hc]; rfl
    rw [List.takeWhile_cons, if_pos hw]
    simp only [Bool.and_eq_true, decide_eq_true_eq]
    refine ⟨⟨by simp, hc⟩, ?_⟩
    rw [List.all_cons, hw, Bool.true_and]
    exact List.all_eq_true.2 fun x hx => List.all_eq_true.1 List.all_takeWhile x hx
theorem str_run {s : ByteArray} : (bts (bSub s 1 (strN s))).all inStrC = true := by
  have : bts (bSub s 1 (strN s)) = ((bts s).drop 1).takeWhile inStrC := by
    rw [bts_sub]
    unfold strN
    rw [Nat.add_sub_cancel_left]
    exact (List.prefix_iff_eq_take.1 (List.takeWhile_prefix inStrC)).symm
  rw [this]
  exact List.all_takeWhile
theorem pun_run {s : ByteArray} (h : punctN s ≠ 0) : PunOk (bts (bSub s 0 (punctN s))) := by
  rw [bts_pre0]
  unfold punctN at h ⊢
  by_cases h2 : 2 ≤ s.size ∧ two2 (byteAt s 0) (byteAt s 1) = true
  · rw [if_pos h2] at h ⊢
    obtain ⟨q1, q2⟩ := h2
    have q2 : two2 (((bts s).getD 0 0).toNat : Int) (((bts s).getD 1 0).toNat : Int) = true := q2
    rw [← bts_len] at q1
    generalize bts s = b at *
    match b, q1, q2 with
    | c :: d :: r, _, q2 => exact .inr ⟨c, d, rfl, q2⟩
  · rw [if_neg h2] at h ⊢
    by_cases h1 : 0 < s.size ∧ (s.data.toList.getD 0 0) ∈ oneB
    · rw [if_pos h1] at h ⊢
      obtain ⟨q1, q2⟩ := h1
      have q2 : (bts s).getD 0 0 ∈ oneB := q2
      rw [← bts_len] at q1
      generalize bts s = b at *
      match b, q1, q2 with
      | c :: r, _, q2 => exact .inl ⟨c, rfl, q2⟩
    · rw [if_neg h1] at h
      exact absurd rfl h
theorem dec20 {u : Nat} (hu : u ≤ 18446744073709551615) : (Lib.decDigits u).length ≤ 20 := by
  rw [Lib.decDigits_length]
  have : ∀ (k u : Nat), u < 10 ^ (k + 1) → Lib.nDigits u ≤ k + 1 := by
    intro k
    induction k with
    | zero => intro u h; rw [Lib.nDigits_small (by simpa using h)]; exact Nat.le_refl _
    | succ k ih =>
      intro u h
      by_cases hu : u < 10
      · rw [Lib.nDigits_small hu]; omega
      · rw [Lib.nDigits_big hu]
        have := ih (u / 10) (by rw [Nat.div_lt_iff_lt_mul (by decide)]; rw [Nat.pow_succ] at h; exact h)
        omega
  exact this 19 u (by omega)
theorem tokS_in {s : ByteArray} (h0 : 0 < s.size) (he : (tokS s).err = 0) (ln cl : Int) : TokIn ⟨(tokS s).kind, (tokS s).text, (tokS s).value, ln, cl⟩ ∧ (txtT ⟨(tokS s).kind, (tokS s).text, (tokS s).value, ln, cl⟩).length ≤ 20 * (tokS s).n := by
  have hok := (tok_ok h0 he).1
  have hle := (tok_ok h0 he).2.1
  have hn := numS_le (bSub s 0 (runN s))
  unfold tokS at he hok hle ⊢
  by_cases h1 : letterB (byteAt s 0) = true
  · rw [if_pos h1] at he hok hle ⊢
    refine ⟨.inl ⟨rfl, word_run h0 h1, rfl⟩, ?_⟩
    show (bts (bSub s 0 (runN s))).length ≤ 20 * runN s
    rw [bts_pre0, List.length_take]
    omega
  rw [if_neg h1] at he hok hle ⊢
  by_cases h2 : digitB (byteAt s 0) = true
  · rw [if_pos h2] at he hok hle ⊢
    generalize numS (bSub s 0 (runN s)) = q at *
    obtain ⟨u, er⟩ := q
    dsimp only at hn he hok hle ⊢
    by_cases h3 : er = 0
    · rw [if_pos h3] at he hok hle ⊢
      refine ⟨.inr (.inl ⟨rfl, rfl, u, hn, rfl⟩), ?_⟩
      have h4 := dec20 hn
      have hok : 1 ≤ runN s := hok
      unfold txtT
      dsimp only
      rw [if_pos rfl, Int.toNat_natCast]
      omega
    · rw [if_neg h3] at he
      exact absurd he h3
  rw [if_neg h2] at he hok hle ⊢
  by_cases h3 : byteAt s 0 = 34
  · rw [if_pos h3] at he hok hle ⊢
    by_cases h4 : strN s < s.size ∧ byteAt s (strN s) = 34
    · rw [if_pos h4] at he hok hle ⊢
      refine ⟨.inr (.inr (.inl ⟨rfl, str_run, rfl⟩)), ?_⟩
      show (34 :: (bts (bSub s 1 (strN s)) ++ [34])).length ≤ 20 * (strN s + 1)
      rw [List.length_cons, List.length_append, bts_sub, List.length_take]
      simp
      omega
    · rw [if_neg h4] at he
      exact absurd he (by show ¬ (50 : Int) = 0; decide)
  rw [if_neg h3] at he hok hle ⊢
  by_cases h4 : punctN s = 0
  · rw [if_pos h4] at he
    exact absurd he (by show ¬ (50 : Int) = 0; decide)
  · rw [if_neg h4] at he hok hle ⊢
    refine ⟨.inr (.inr (.inr ⟨rfl, pun_run h4, rfl⟩)), ?_⟩
    show (bts (bSub s 0 (punctN s))).length ≤ 20 * punctN s
    rw [bts_pre0, List.length_take]
    omega
def sumT (ts : List Tok) : Nat := (ts.map fun t => (txtT t).length + 1).sum
theorem layT_len : ∀ ts : List Tok, (layT ts).length ≤ sumT ts
  | [] => Nat.le_refl _
  | [t] => by show (txtT t).length ≤ _; unfold sumT; simp
  | t :: u :: ts => by
    have ih := layT_len (u :: ts)
    show (txtT t ++ 32 :: layT (u :: ts)).length ≤ _
    unfold sumT at *
    rw [List.length_append, List.length_cons]
    rw [List.map_cons, List.sum_cons]
    omega
theorem scanN_in {s : ByteArray} : ∀ (f off : Nat) (acc : List Tok), off ≤ s.size → (∀ t ∈ acc, TokIn t) → (∀ t ∈ (scanN s f off acc).1, TokIn t) ∧ sumT (scanN s f off acc).1 + 21 * off ≤ sumT acc + 21 * s.size
  | 0, off, acc, ho, h => ⟨h, by show sumT acc + _ ≤ _; omega⟩
  | f + 1, off, acc, ho, h => by
    unfold scanN
    by_cases h0 : s.size ≤ off
    · rw [if_pos h0]; exact ⟨h, by show sumT acc + _ ≤ _; omega⟩
    rw [if_neg h0]
    by_cases h1 : spaceB (byteAt s off) = true
    · rw [if_pos h1]
      obtain ⟨a, b⟩ := scanN_in (s := s) f (off + 1) acc (by omega) h
      exact ⟨a, by omega⟩
    rw [if_neg h1]
    by_cases h2 : byteAt s off = 35
    · rw [if_pos h2]
      have hs1 : off ≤ skipN s off := Nat.le_add_right _ _
      have hs2 : skipN s off ≤ s.size := by
        unfold skipN
        have := (List.takeWhile_prefix (fun b : UInt8 => decide ((b.toNat : Int) ≠ 10)) (l := (bts s).drop off)).length_le
        rw [List.length_drop, bts_len] at this
        omega
      obtain ⟨a, b⟩ := scanN_in (s := s) f (skipN s off) acc hs2 h
      exact ⟨a, by omega⟩
    rw [if_neg h2]
    by_cases h3 : (tokS (bSub s off s.size)).err = 0
    · rw [if_pos h3]
      have hsz : (bSub s off s.size).size = s.size - off := sub_size (Nat.le_refl _)
      obtain ⟨i1, i2⟩ := tokS_in (s := bSub s off s.size) (by omega) h3 (posAt s off).Line (posAt s off).Col
      have hk := tok_ok (s := bSub s off s.size) (by omega) h3
      obtain ⟨a, b⟩ := scanN_in (s := s) f (off + (tokS (bSub s off s.size)).n) (acc ++ [⟨(tokS (bSub s off s.size)).kind, (tokS (bSub s off s.size)).text, (tokS (bSub s off s.size)).value, (posAt s off).Line, (posAt s off).Col⟩]) (by omega) (fun t ht => by
        rcases List.mem_append.1 ht with q | q
        · exact h t q
        · rw [List.mem_singleton.1 q]; exact i1)
      refine ⟨a, ?_⟩
      have hsum : sumT (acc ++ [⟨(tokS (bSub s off s.size)).kind, (tokS (bSub s off s.size)).text, (tokS (bSub s off s.size)).value, (posAt s off).Line, (posAt s off).Col⟩]) = sumT acc + ((txtT ⟨(tokS (bSub s off s.size)).kind, (tokS (bSub s off s.size)).text, (tokS (bSub s off s.size)).value, (posAt s off).Line, (posAt s off).Col⟩).length + 1) := by
        unfold sumT
        rw [List.map_append, List.sum_append]; simp
      omega
    · rw [if_neg h3]
      show (∀ t ∈ ([] : List Tok), TokIn t) ∧ 0 + 21 * off ≤ sumT acc + 21 * s.size
      exact ⟨fun t ht => (by cases ht), by omega⟩
/-- **Layout.** The tokens of a short text, written one behind another, are scanned as the same kinds, texts and values. -/
theorem scan_lay {s : ByteArray} (hs : s.size ≤ 3000) : (∀ t ∈ (scanS s).1, TokIn t) ∧ (layT (scanS s).1).length ≤ 63000 ∧ ∃ toks, toks.map tri = (scanS s).1.map tri ∧ scanS (mkB (layT (scanS s).1)) = (toks, ⟨0, 0⟩, 0) := by
  have hS : (∀ t ∈ (scanS s).1, TokIn t) ∧ sumT (scanS s).1 ≤ 21 * s.size := by
    unfold scanS
    rw [if_neg (by omega)]
    obtain ⟨a, b⟩ := scanN_in (s := s) (s.size + 1) 0 [] (Nat.zero_le _) (fun t ht => (by cases ht))
    exact ⟨a, by have : sumT [] = 0 := rfl; omega⟩
  have hl := layT_len (scanS s).1
  obtain ⟨toks, h1, h2⟩ := scanS_of (Tz.lay hS.1) (by omega)
  exact ⟨hS.1, by omega, toks, h1, h2⟩
end Go.Proofs.YtimbobmmijgkiaaGreatDoor
end
/- What hwlex.Format writes of tokens. -/
section
open Go Mk
namespace Go.Proofs.YtimbobmmijgkiaaGreatDoor
set_option maxHeartbeats 16000000
attribute [local irreducible] Calls

theorem layT_snoc {t : Tok} : ∀ {ts : List Tok}, ts ≠ [] → layT (ts ++ [t]) = layT ts ++ 32 :: txtT t
  | [], h => absurd rfl h
  | [x], _ => rfl
  | x :: y :: ts, _ => by
    have := layT_snoc (t := t) (ts := y :: ts) (by simp)
    show txtT x ++ 32 :: layT (y :: ts ++ [t]) = (txtT x ++ 32 :: layT (y :: ts)) ++ 32 :: txtT t
    rw [this]; simp
theorem layT_take : ∀ {ts : List Tok} (k : Nat), (layT (ts.take k)).length ≤ (layT ts).length
  | [], k => by simp
  | [x], 0 => by simp [layT]
  | [x], k + 1 => by simp
  | x :: y :: ts, 0 => by simp [layT]
  | x :: y :: ts, 1 => by simp [layT]
  | x :: y :: ts, k + 2 => by
    have := layT_take (ts := y :: ts) (k + 1)
    simp only [List.take_succ_cons] at this ⊢
    show (txtT x ++ 32 :: layT (y :: ts.take k)).length ≤ (txtT x ++ 32 :: layT (y :: ts)).length
    simp only [List.length_append, List.length_cons]; omega
theorem layT_mem {t : Tok} : ∀ {ts : List Tok}, t ∈ ts → (txtT t).length ≤ (layT ts).length
  | [], h => by cases h
  | [x], h => by rw [List.mem_singleton.1 h]; exact Nat.le_refl _
  | x :: y :: ts, h => by
    have hL : layT (x :: y :: ts) = txtT x ++ 32 :: layT (y :: ts) := rfl
    rw [hL, List.length_append, List.length_cons]
    rcases List.mem_cons.1 h with e | e
    · rw [e]; omega
    · have := layT_mem e; omega
theorem text_le {t : Tok} (h : TokIn t) : t.Text.size ≤ (txtT t).length := by
  have hb : (bts t.Text).length = t.Text.size := bts_len _
  unfold txtT
  rcases h with ⟨e, -⟩ | ⟨e, e1, -⟩ | ⟨e, -⟩ | ⟨e, -⟩
  · rw [e, if_neg (by decide), if_neg (by decide)]; omega
  · rw [e1]; exact Nat.zero_le _
  · rw [e, if_neg (by decide), if_pos rfl]; simp only [List.length_cons, List.length_append, List.length_nil]; omega
  · rw [e, if_neg (by decide), if_neg (by decide)]; omega
theorem layT_len_le : ∀ {ts : List Tok}, (∀ t ∈ ts, TokIn t) → ts.length ≤ (layT ts).length + 1
  | [], _ => by simp
  | [x], _ => by simp
  | x :: y :: ts, h => by
    have := layT_len_le (ts := y :: ts) fun t ht => h t (List.mem_cons_of_mem _ ht)
    have hL : layT (x :: y :: ts) = txtT x ++ 32 :: layT (y :: ts) := rfl
    rw [hL, List.length_append, List.length_cons]
    simp only [List.length_cons] at *
    omega
def quoteB : ByteArray := ⟨#[34]⟩
theorem all_get {p : UInt8 → Bool} {s : ByteArray} (h : (bts s).all p = true) {k : Nat} (hk : k < s.size) : ∃ b, b ∈ bts s ∧ p b = true ∧ byteAt s k = ((b.toNat : Nat) : Int) := by
  have hk' : k < (bts s).length := by rw [bts_len]; exact hk
  refine ⟨(bts s)[k], List.getElem_mem hk', List.all_eq_true.1 h _ (List.getElem_mem hk'), ?_⟩
  show (((bts s).getD k 0).toNat : Int) = _
  rw [List.getD_eq_getElem?_getD, List.getElem?_eq_getElem hk']; rfl
theorem pg_text {Γ : Gho} [hT : TabG Γ] {t : Tok} (ht : TokIn t) (hs : t.Text.size ≤ 63000) : PG Tryz.prog Γ 28 [.agg (enc t).toArray] (.tuple #[.string (mkB (txtT t)), .bool true]) := ⟨fun S w hw => by
  haveI : SB t.Text := ⟨by omega⟩
  obtain ⟨kd, tx, v, ln, cl⟩ := t
  unfold TokIn at ht
  dsimp only at ht hs
  have hE : ∀ {x : List UInt8} {b : ByteArray}, b = mkB x → Ending.returned (.tuple #[.string b, .bool true]) = Ending.returned (.tuple #[.string (mkB x), .bool true]) := fun h => by rw [h]
  refine calls_of_W Tryz.func28 rfl rfl ?_
  rcases ht with ⟨rfl, h1, rfl⟩ | ⟨rfl, rfl, u, hu, rfl⟩ | ⟨rfl, h1, rfl⟩ | ⟨rfl, h1, rfl⟩
  · haveI : SB tx := ⟨by omega⟩
    repeat (first | refine byW ?_ | (refine byV ?_; intro w hw))
    refine lBox ?_
    intro b1 w hw
    have hw : Wd Γ (.blk b1 (.cells (enc (⟨1, tx, 0, ln, cl⟩ : Tok)).toArray 53) :: S) w := hw
    repeat (first | refine byW ?_ | (refine byV ?_; intro w hw))
    refine W_cond rfl (fun h => by simp at h) (fun _ => ?_)
    repeat (first | refine byW ?_ | (refine byV ?_; intro w hw))
    refine W_cond rfl (fun _ => ?_) (fun h => by simp at h)
    repeat (first | refine byW ?_ | (refine byV ?_; intro w hw))
    refine W_quiet (by kernel_rfl) (by kernel_rfl) hw ?_
    repeat (first | refine Q_nil ?_ | (apply Q_plain; first | (apply Q_go; first | refine qP ?_ | refine qPg ?_) | refine qY ?_) | (apply Q_guarded; first | (apply Q_go; first | refine qPG ?_ | refine qPgG ?_) | refine qG ?_))
    intro w hw
    repeat (first | refine byW ?_ | (refine byV ?_; intro w hw))
    rw [h1]
    have hX : txtT ⟨1, tx, 0, ln, cl⟩ = bts tx := rfl
    rw [hX]
    exact ⟨_, rfl, hE (mkB_bts tx).symm, hw.drop⟩
  · have hF := pg_fmtUint (Γ := Γ) hu
    repeat (first | refine byW ?_ | (refine byV ?_; intro w hw))
    refine lBox ?_
    intro b1 w hw
    have hw : Wd Γ (.blk b1 (.cells (enc (⟨2, ⟨#[]⟩, (u : Nat), ln, cl⟩ : Tok)).toArray 53) :: S) w := hw
    repeat (first | refine byW ?_ | (refine byV ?_; intro w hw))
    refine W_cond rfl (fun h => by simp at h) (fun _ => ?_)
    repeat (first | refine byW ?_ | (refine byV ?_; intro w hw))
    refine W_cond rfl (fun h => by simp at h) (fun _ => ?_)
    repeat (first | refine byW ?_ | (refine byV ?_; intro w hw))
    refine W_cond rfl (fun _ => ?_) (fun h => by simp at h)
    repeat (first | refine byW ?_ | (refine byV ?_; intro w hw))
    refine W_quiet (by kernel_rfl) (by kernel_rfl) hw ?_
    repeat (first | refine Q_nil ?_ | (apply Q_plain; first | (apply Q_go; first | refine qP ?_ | refine qPg ?_) | refine qY ?_) | (apply Q_guarded; first | (apply Q_go; first | refine qPG ?_ | refine qPgG ?_) | refine qG ?_))
    intro w hw
    repeat (first | refine byW ?_ | (refine byV ?_; intro w hw))
    exact ⟨_, rfl, rfl, hw.drop⟩
  · haveI : SB tx := ⟨by omega⟩
    repeat (first | refine byW ?_ | (refine byV ?_; intro w hw))
    refine lBox ?_
    intro b1 w hw
    have hw : Wd Γ (.blk b1 (.cells (enc (⟨3, tx, 0, ln, cl⟩ : Tok)).toArray 53) :: S) w := hw
    repeat (first | refine byW ?_ | (refine byV ?_; intro w hw))
    refine W_cond rfl (fun h => by simp at h) (fun _ => ?_)
    repeat (first | refine byW ?_ | (refine byV ?_; intro w hw))
    refine W_cond rfl (fun h => by simp at h) (fun _ => ?_)
    repeat (first | refine byW ?_ | (refine byV ?_; intro w hw))
    refine W_cond rfl (fun h => by simp at h) (fun _ => ?_)
    repeat (first | refine byW ?_ | (refine byV ?_; intro w hw))
    refine W_cond rfl (fun _ => ?_) (fun h => by simp at h)
    repeat (first | refine byW ?_ | (refine byV ?_; intro w hw))
    refine W_loop (fun μ ρ w => ∃ (k : Nat), μ + k = tx.size ∧ Has ρ [(1, .pointer (some ⟨b1, 0, none⟩)), (4, .int .i64 k)] ∧ Wd Γ (.blk b1 (.cells (enc (⟨3, tx, 0, ln, cl⟩ : Tok)).toArray 53) :: S) w) tx.size ⟨0, by omega, ⟨rfl, rfl, trivial⟩, hw⟩ ?_
    clear hw
    rintro μ ρ w ⟨k, hk, hρ, hw⟩
    rw [hρ.eq]
    repeat (first | refine byW ?_ | (refine byV ?_; intro w hw))
    refine W_cond rfl (fun h => ?_) (fun h => ?_)
    · have hkn : k < tx.size := by have h2 : decide ((k : Int) < (tx.size : Int)) = true := h; have := of_decide_eq_true h2; omega
      obtain ⟨b, -, hb, hbk⟩ := all_get h1 hkn
      have hin : inStr (byteAt tx k) = true := by rw [hbk]; exact hb
      have hkn' : k < (⟨3, tx, 0, ln, cl⟩ : Tok).Text.size := hkn
      repeat (first | refine byW ?_ | (refine byV ?_; intro w hw))
      refine W_cond rfl (fun h2 => ?_) (fun _ => ?_)
      · have h2 : (!inStr (byteAt tx k)) = true := h2
        rw [hin] at h2; cases h2
      repeat (first | refine byW ?_ | (refine byV ?_; intro w hw))
      exact ⟨μ - 1, by omega, k + 1, by omega, ⟨rfl, rfl, trivial⟩, hw⟩
    · repeat (first | refine byW ?_ | (refine byV ?_; intro w hw))
      refine lY (v := .string (quoteB ++ tx)) ?_ (hy := y_addS rfl rfl (by have : quoteB.size = 1 := rfl; omega))
      repeat (first | refine byW ?_ | (refine byV ?_; intro w hw))
      refine lY (v := .string ((quoteB ++ tx) ++ quoteB)) ?_ (hy := y_addS rfl rfl (by have : (⟨#[34]⟩ : ByteArray).size = 1 := rfl; have : quoteB.size = 1 := rfl; rw [ByteArray.size_append]; omega))
      repeat (first | refine byW ?_ | (refine byV ?_; intro w hw))
      refine ⟨_, rfl, hE ?_, hw.drop⟩
      refine bts_ext ?_
      have hX : txtT ⟨3, tx, 0, ln, cl⟩ = 34 :: (bts tx ++ [34]) := rfl
      rw [hX, bts_ap, bts_ap]
      unfold mkB
      rw [bts_mk]; rfl
  · haveI : SB tx := ⟨by omega⟩
    have hp : tx ≠ ⟨#[]⟩ ∧ punctN tx = tx.size := by
      have hb := mkB_bts tx
      have hl := bts_len tx
      generalize bts tx = b at *
      subst hb
      cases b with
      | nil => rcases h1 with ⟨c, e, -⟩ | ⟨c, d, e, -⟩ <;> cases e
      | cons c p =>
        have := (tkz_pun (p := p) (l := []) h1 (.inl rfl)).1
        rw [List.append_nil] at this
        refine ⟨ne_nilB.2 (by rw [← hl]; simp), ?_⟩
        rw [← hl]
        rcases h1 with ⟨c', e, hc⟩ | ⟨c', d, e, h2⟩
        · obtain ⟨rfl, rfl⟩ := List.cons.inj e
          unfold punctN
          rw [if_neg (by rintro ⟨q1, -⟩; rw [← hl] at q1; simp at q1), if_pos ⟨by rw [← hl]; simp, hc⟩]; rfl
        · obtain ⟨rfl, e2⟩ := List.cons.inj e
          subst e2
          unfold punctN
          rw [if_pos ⟨by rw [← hl]; simp, h2⟩]; rfl
    repeat (first | refine byW ?_ | (refine byV ?_; intro w hw))
    refine lBox ?_
    intro b1 w hw
    have hw : Wd Γ (.blk b1 (.cells (enc (⟨4, tx, 0, ln, cl⟩ : Tok)).toArray 53) :: S) w := hw
    repeat (first | refine byW ?_ | (refine byV ?_; intro w hw))
    refine W_cond rfl (fun h => by simp at h) (fun _ => ?_)
    repeat (first | refine byW ?_ | (refine byV ?_; intro w hw))
    refine W_cond rfl (fun h => by simp at h) (fun _ => ?_)
    repeat (first | refine byW ?_ | (refine byV ?_; intro w hw))
    refine W_cond rfl (fun h => by simp at h) (fun _ => ?_)
    repeat (first | refine byW ?_ | (refine byV ?_; intro w hw))
    refine W_cond rfl (fun h => by simp at h) (fun _ => ?_)
    repeat (first | refine byW ?_ | (refine byV ?_; intro w hw))
    refine W_cond rfl (fun _ => ?_) (fun h => by simp at h)
    repeat (first | refine byW ?_ | (refine byV ?_; intro w hw))
    refine W_quiet (by kernel_rfl) (by kernel_rfl) hw ?_
    repeat (first | refine Q_nil ?_ | (apply Q_plain; first | (apply Q_go; first | refine qP ?_ | refine qPg ?_) | refine qY ?_) | (apply Q_guarded; first | (apply Q_go; first | refine qPG ?_ | refine qPgG ?_) | refine qG ?_))
    intro w hw
    repeat (first | refine byW ?_ | (refine byV ?_; intro w hw))
    have hX : txtT ⟨4, tx, 0, ln, cl⟩ = bts tx := rfl
    rw [hX]
    refine ⟨_, rfl, ?_, hw.drop⟩
    rw [mkB_bts]
    have e1 : (decide (tx ≠ ⟨#[]⟩) && decide ((punctN tx : Int) = (tx.size : Int))) = true := by rw [hp.2]; simp [hp.1]
    show Ending.returned (.tuple #[.string tx, .bool (decide (tx ≠ ⟨#[]⟩) && decide ((punctN tx : Int) = (tx.size : Int)))]) = _
    rw [e1]⟩
theorem HFormat_any {Γ : Gho} {S : List Res} {w : World} {v : Value} [hT : TabG Γ] (ts : List Tok) (hin : ∀ t ∈ ts, TokIn t) (hl : (layT ts).length ≤ 63000) (hr : RdS Γ S v 5 (ts.map enc)) (hw : Wd Γ S w) :
    Calls Tryz.prog 10 #[v] w fun e w' => e = .returned (.string (mkB (layT ts))) ∧ Wd Γ S w' := by
  obtain ⟨a, n, c, rfl, hn, hnc, hc⟩ := hr.shape
  simp only [List.length_map] at hn
  have hlen := layT_len_le hin
  refine calls_of_W Tryz.func10 rfl rfl ?_
  repeat (first | refine byW ?_ | (refine byV ?_; intro w hw))
  refine lAlloc ?_
  intro b3 w hw
  have hw := bld_new hw
  repeat (first | refine byW ?_ | (refine byV ?_; intro w hw))
  refine W_loop (fun μ ρ w => ∃ (k : Nat), μ + k = n ∧ Has ρ [(3, .pointer (some ⟨b3, 0, none⟩)), (8, .slice a n c), (9, .int .i64 n), (10, .int .i64 k)] ∧ Wd Γ (bldR b3 (layT (ts.take k)) :: S) w) n ⟨0, by omega, ⟨rfl, rfl, rfl, rfl, trivial⟩, hw⟩ ?_
  clear hw
  rintro μ ρ w ⟨k, hk, hρ, hw⟩
  rw [hρ.eq]
  have hrc : RdS Γ (bldR b3 (layT (ts.take k)) :: S) (.slice a n c) 5 (ts.map enc) := hr.cons
  have hsz := layT_take (ts := ts) k
  repeat (first | refine byW ?_ | (refine byV ?_; intro w hw))
  refine W_cond rfl (fun h => ?_) (fun h => ?_)
  · have hkn : k < n := by have := of_decide_eq_true h; omega
    obtain ⟨t, ht⟩ := get_lt (l := ts) (k := k) (by omega)
    have hti := hin t (List.mem_of_getElem? ht)
    have htl := layT_mem (List.mem_of_getElem? ht)
    have hts := text_le hti
    have htk : ts.take (k + 1) = ts.take k ++ [t] := by rw [List.take_add_one, ht]; rfl
    have hP := pg_text (Γ := Γ) hti (by omega)
    repeat (first | refine byW ?_ | (refine byV ?_; intro w hw))
    refine lAlloc ?_
    intro b5 w hw
    repeat (first | refine byW ?_ | (refine byV ?_; intro w hw))
    refine lStore ?_
    intro w hw
    have hw : Wd Γ (.blk b5 (.cells (enc t).toArray 53) :: bldR b3 (layT (ts.take k)) :: S) w := hw
    repeat (first | refine byW ?_ | (refine byV ?_; intro w hw))
    refine W_cond rfl (fun h2 => by cases h2) (fun _ => ?_)
    repeat (first | refine byW ?_ | (refine byV ?_; intro w hw))
    refine W_cutT (fun ρ w => Has ρ [(3, .pointer (some ⟨b3, 0, none⟩)), (6, .string (mkB (txtT t))), (8, .slice a n c), (9, .int .i64 n), (10, .int .i64 k)] ∧ Wd Γ (bldR b3 (if k = 0 then [] else layT (ts.take k) ++ [32]) :: S) w) ?_ ?_
    · repeat (first | refine byW ?_ | (refine byV ?_; intro w hw))
      refine W_cond rfl (fun h2 => ?_) (fun h2 => ?_)
      · have hk0 : ¬ k = 0 := by have h3 : decide ((0 : Int) < (k : Int)) = true := h2; have := of_decide_eq_true h3; omega
        have hw : Wd Γ (bldR b3 (layT (ts.take k)) :: S) w := hw.drop
        repeat (first | refine byW ?_ | (refine byV ?_; intro w hw))
        refine lCall (vs := [.pointer (some ⟨b3, 0, none⟩), .int .u8 (((32 : UInt8).toNat : Nat) : Int)]) ?_
        refine (WriteByte_any 32 (by omega) hw).mono ?_
        rintro e w ⟨rfl, hw⟩
        refine ⟨_, rfl, ?_⟩
        repeat (first | refine byW ?_ | (refine byV ?_; intro w hw))
        refine ⟨⟨rfl, rfl, rfl, rfl, rfl, trivial⟩, ?_⟩
        rw [if_neg hk0]; exact hw
      · have hk0 : k = 0 := by have h3 : decide ((0 : Int) < (k : Int)) = false := h2; have := of_decide_eq_false h3; omega
        repeat (first | refine byW ?_ | (refine byV ?_; intro w hw))
        refine ⟨⟨rfl, rfl, rfl, rfl, rfl, trivial⟩, ?_⟩
        rw [if_pos hk0]
        have hw := hw.drop
        subst hk0
        exact hw
    · rintro ρ w ⟨hρ, hw⟩
      rw [hρ.eq]
      repeat (first | refine byW ?_ | (refine byV ?_; intro w hw))
      refine lCall (vs := [.pointer (some ⟨b3, 0, none⟩), .string (mkB (txtT t))]) ?_
      refine (WriteString_any (mkB (txtT t)) (by rw [mkB_size]; split <;> simp <;> omega) hw).mono ?_
      clear hw
      rintro e w ⟨rfl, hw⟩
      refine ⟨_, rfl, ?_⟩
      repeat (first | refine byW ?_ | (refine byV ?_; intro w hw))
      refine ⟨μ - 1, by omega, k + 1, by omega, ⟨rfl, rfl, rfl, rfl, trivial⟩, ?_⟩
      have hL : layT (ts.take (k + 1)) = (if k = 0 then [] else layT (ts.take k) ++ [32]) ++ (mkB (txtT t)).data.toList := by
        rw [htk, show (mkB (txtT t)).data.toList = txtT t from bts_mk _]
        by_cases hk0 : k = 0
        · subst hk0; rfl
        · have hne : ts.take k ≠ [] := fun q => by
            have q2 := congrArg List.length q
            rw [List.length_take, List.length_nil] at q2
            omega
          rw [if_neg hk0, layT_snoc hne]
          simp
      rw [hL]; exact hw
  · have hkn : n ≤ k := by have := of_decide_eq_false h; omega
    rw [List.take_of_length_le (by omega)] at hw
    repeat (first | refine byW ?_ | (refine byV ?_; intro w hw))
    refine lCall ?_
    refine (String_any (by omega) hw).mono ?_
    rintro e w ⟨rfl, hw⟩
    refine ⟨_, rfl, ?_⟩
    repeat (first | refine byW ?_ | (refine byV ?_; intro w hw))
    exact ⟨_, rfl, rfl, hw⟩
end Go.Proofs.YtimbobmmijgkiaaGreatDoor
end
/- The program's parser: looking at the next token, and failing. -/
section
open Go Mk
namespace Go.Proofs.YtimbobmmijgkiaaGreatDoor
set_option maxHeartbeats 4000000
attribute [local irreducible] Calls

/-- The parser in memory: its tokens, the number of the next, the position of the end. -/
def parB (bp : Nat) (a : Option Addr) (n c : Nat) (at' : Nat) (e : PosT) : Res := .blk bp (.cells #[.slice a n c, .int .i64 at', .int .i64 e.Line, .int .i64 e.Col] 62)
def failE (p : PosT) (er : Int) : PanicEntry := { v := .iface 57 (.agg #[.int .i64 p.Line, .int .i64 p.Col, .int .i64 er]), recovered := false }

def Parses {α : Type} (Γ : Gho) (S : List Res) (bp : Nat) (a : Option Addr) (n c : Nat) (e : PosT) (K : α → Value) : PR α → Ending → World → Prop
  | .ok (x, at2), r, w => r = .returned (K x) ∧ Wd Γ (parB bp a n c at2 e :: S) w
  | .error (p, er), r, w => r = .panicked [failE p er] ∧ ∃ at2, Wd Γ (parB bp a n c at2 e :: S) w
section
variable {Γ : Gho} {S : List Res} {w : World} {bp : Nat} {a : Option Addr} {n c at' : Nat} {e : PosT} {toks : List Tok}
theorem is_any (kind : Int) (text : ByteArray) (ht : RepS Γ (.slice a n c) 5 (toks.map enc)) (hw : Wd Γ (parB bp a n c at' e :: S) w) :
    Calls Tryz.prog 104 #[.pointer (some ⟨bp, 0, none⟩), .int .i64 kind, .string text] w fun r w' => r = .returned (.bool (isS toks at' kind text)) ∧ Wd Γ (parB bp a n c at' e :: S) w' := by
  have hn : n = toks.length := by obtain ⟨_, _, _, h1, h2, _⟩ := ht.shape; cases h1; simpa using h2
  unfold parB at *
  refine calls_of_W Tryz.func104 rfl rfl ?_
  repeat (first | refine byW ?_ | (refine byV ?_; intro w hw))
  obtain ⟨t, htk⟩ : ∃ t : Tok, at' < n → toks[at']? = some t := by
    by_cases h : at' < n
    · obtain ⟨t, ht⟩ := get_lt (l := toks) (k := at') (by omega); exact ⟨t, fun _ => ht⟩
    · exact ⟨default, fun hh => absurd hh h⟩
  have key : ((decide ((at' : Int) < n) && decide (t.Kind = kind)) && decide (t.Text = text)) = isS toks at' kind text := by
    unfold isS
    by_cases h : at' < n
    · rw [htk h]; have h1 : (at' : Int) < n := by omega
      simp [h1]
    · rw [List.getElem?_eq_none (by omega)]; have h1 : ¬ (at' : Int) < n := by omega
      simp [h1]
  refine W_quiet (by kernel_rfl) (by kernel_rfl) hw ?_
  iterate 21 (first | refine Q_nil ?_ | (apply Q_plain; first | (apply Q_go; first | refine qP ?_ | refine qPg ?_) | refine qY ?_) | (apply Q_guarded; first | (apply Q_go; first | refine qPG ?_ | refine qPgG ?_) | refine qG ?_))
  apply Q_guarded
  refine qG ?_ (hy := fun hc w hw => by
    have h0 := htk (by simp only [Bool.and_eq_true, decide_eq_true_eq] at hc; omega)
    exact byPUG)
  iterate 14 (first | refine Q_nil ?_ | (apply Q_plain; first | (apply Q_go; first | refine qP ?_ | refine qPg ?_) | refine qY ?_) | (apply Q_guarded; first | (apply Q_go; first | refine qPG ?_ | refine qPgG ?_) | refine qG ?_))
  apply Q_guarded
  refine qG ?_ (hy := fun hc w hw => by
    have h0 := htk (by simp only [Bool.and_eq_true, decide_eq_true_eq] at hc; omega)
    exact byPUG)
  repeat (first | refine Q_nil ?_ | (apply Q_plain; first | (apply Q_go; first | refine qP ?_ | refine qPg ?_) | refine qY ?_) | (apply Q_guarded; first | (apply Q_go; first | refine qPG ?_ | refine qPgG ?_) | refine qG ?_))
  intro w hw
  repeat (first | refine byW ?_ | (refine byV ?_; intro w hw))
  exact ⟨_, rfl, ret_b rfl key, hw⟩
theorem fail_any (er : Int) (ht : RepS Γ (.slice a n c) 5 (toks.map enc)) (hw : Wd Γ (parB bp a n c at' e :: S) w) :
    Calls Tryz.prog 106 #[.pointer (some ⟨bp, 0, none⟩), .int .i64 er] w fun r w' => r = .panicked [failE (posOf toks at' e) er] ∧ Wd Γ (parB bp a n c at' e :: S) w' := by
  have hn : n = toks.length := by obtain ⟨_, _, _, h1, h2, _⟩ := ht.shape; cases h1; simpa using h2
  unfold parB at *
  refine calls_of_W Tryz.func106 rfl rfl ?_
  repeat (first | refine byW ?_ | (refine byV ?_; intro w hw))
  refine lAlloc ?_
  intro b4 w hw
  refine lStore ?_
  intro w hw
  refine L_nil ?_
  have hw : Wd Γ (.blk b4 (.cells (enc e).toArray 25) :: .blk bp (.cells #[.slice a n c, .int .i64 at', .int .i64 e.Line, .int .i64 e.Col] 62) :: S) w := hw
  refine W_cut (fun ρ w => ∃ b4 : Nat, Has ρ [(1, .int .i64 er), (4, .pointer (some ⟨b4, 0, none⟩))] ∧ Wd Γ (.blk b4 (.cells (enc (posOf toks at' e)).toArray 25) :: .blk bp (.cells #[.slice a n c, .int .i64 at', .int .i64 e.Line, .int .i64 e.Col] 62) :: S) w) ?_ ?_
  · repeat (first | refine byW ?_ | (refine byV ?_; intro w hw))
    refine W_quiet (by kernel_rfl) (by kernel_rfl) hw ?_
    repeat (first | refine Q_nil ?_ | (apply Q_plain; first | (apply Q_go; first | refine qP ?_ | refine qPg ?_) | refine qY ?_) | (apply Q_guarded; first | (apply Q_go; first | refine qPG ?_ | refine qPgG ?_) | refine qG ?_))
    intro w hw
    refine W_cond rfl (fun h => ?_) (fun h => ?_)
    · have h : at' < n := by simp at h; omega
      obtain ⟨t, htk⟩ := get_lt (l := toks) (k := at') (by omega)
      have hp : posOf toks at' e = ⟨t.Line, t.Col⟩ := by unfold posOf; rw [htk]
      repeat (first | refine byW ?_ | (refine byV ?_; intro w hw))
      refine W_mixC [.blk bp _] (.blk b4 _ :: S) [] [[],[],[],[],[],[],[],[],[],[],[],[0]] (hw.ps [1]) ?_
      repeat (first | refine mY ?_ | refine mP ?_ | refine mPg ?_)
      refine mStepX (φ := fun (_ : Unit) _ => True) (R := fun _ => .blk b4 (.cells (enc e).toArray 25) :: S) (v := undef) (T' := Unit) (fun _ _ => True) (fun _ => .blk b4 (.cells (enc (⟨t.Line, t.Col⟩ : PosT)).toArray 25) :: S) (fun t' g w Y _ hw => s_store (i := 0) (inferInstance : TSz Tryz.prog 25 2).h hw rfl rfl rfl rfl (fun u hu => (List.all_eq_true.1 (enc_one (⟨t.Line, t.Col⟩ : PosT))) u hu) rfl (Nat.le_refl 2) fun w' hw' => ⟨(), trivial, (fun _ => rfl), hw'⟩) ?_
      refine mEndX fun t' w g _ hw => ?_
      repeat (first | refine byW ?_ | (refine byV ?_; intro w hw))
      exact ⟨b4, ⟨rfl, rfl, trivial⟩, by rw [hp]; exact hw.flip.ps [1]⟩
    · have h : ¬ at' < n := by simp at h; omega
      have hp : posOf toks at' e = e := by unfold posOf; rw [List.getElem?_eq_none (by omega)]
      repeat (first | refine byW ?_ | (refine byV ?_; intro w hw))
      exact ⟨b4, ⟨rfl, rfl, trivial⟩, by rw [hp]; exact hw⟩
  · rintro ρ w ⟨b4, hρ, hw⟩
    rw [hρ.eq]
    repeat (first | refine byW ?_ | (refine byV ?_; intro w hw))
    refine lY (v := .iface 57 (.agg #[.int .i64 (posOf toks at' e).Line, .int .i64 (posOf toks at' e).Col, .int .i64 er])) ?_ (hy := y_mkIface Tryz.underlying57 rfl)
    refine L_panic ?_
    exact ⟨rfl, hw.drop⟩
theorem next_any (kind : Int) (ht : RepS Γ (.slice a n c) 5 (toks.map enc)) (hat : at' ≤ n) (hw : Wd Γ (parB bp a n c at' e :: S) w) :
    Calls Tryz.prog 152 #[.pointer (some ⟨bp, 0, none⟩), .int .i64 kind] w (Parses Γ S bp a n c e (fun t : Tok => .agg (enc t).toArray) (nextP toks e kind at')) := by
  have hn : n = toks.length := by obtain ⟨_, _, _, h1, h2, _⟩ := ht.shape; cases h1; simpa using h2
  refine calls_of_WC Tryz.func152 rfl rfl ?_
  repeat (first | refine byW ?_ | (refine byV ?_; intro w hw))
  refine lAlloc ?_
  intro b4 w hw
  have hw : Wd Γ (.blk b4 (.cells (enc (default : Tok)).toArray 53) :: .blk bp (.cells #[.slice a n c, .int .i64 at', .int .i64 e.Line, .int .i64 e.Col] 62) :: S) w := hw
  repeat (first | refine byW ?_ | (refine byV ?_; intro w hw))
  obtain ⟨t, htk⟩ : ∃ t : Tok, at' < n → toks[at']? = some t := by
    by_cases h : at' < n
    · obtain ⟨t, ht⟩ := get_lt (l := toks) (k := at') (by omega); exact ⟨t, fun _ => ht⟩
    · exact ⟨default, fun hh => absurd hh h⟩
  have key : (decide ((at' : Int) = n) || decide (t.Kind ≠ kind)) = !decide (at' < n ∧ t.Kind = kind) := by
    rw [show decide ((at' : Int) = n) = decide (¬ at' < n) from decide_eq_decide.2 (by omega)]
    by_cases e1 : at' < n <;> by_cases e2 : t.Kind = kind <;> simp [e1, e2]
  refine W_quiet (by kernel_rfl) (by kernel_rfl) hw ?_
  iterate 21 (first | refine Q_nil ?_ | (apply Q_plain; first | (apply Q_go; first | refine qP ?_ | refine qPg ?_) | refine qY ?_) | (apply Q_guarded; first | (apply Q_go; first | refine qPG ?_ | refine qPgG ?_) | refine qG ?_))
  apply Q_guarded
  refine qG ?_ (hy := fun hc w hw => by
    have h0 := htk (by simp only [Bool.not_eq_true', decide_eq_false_iff_not] at hc; omega)
    exact byPUG)
  repeat (first | refine Q_nil ?_ | (apply Q_plain; first | (apply Q_go; first | refine qP ?_ | refine qPg ?_) | refine qY ?_) | (apply Q_guarded; first | (apply Q_go; first | refine qPG ?_ | refine qPgG ?_) | refine qG ?_))
  intro w hw
  refine W_cond rfl (fun h => ?_) (fun h => ?_)
  · have h := key.symm.trans h
    repeat (first | refine byW ?_ | (refine byV ?_; intro w hw))
    refine L_callE ?_
    refine (fail_any (S := .blk b4 _ :: S) 50 ht (hw.ps [1])).mono ?_
    rintro r w ⟨rfl, hw⟩
    have hP : nextP toks e kind at' = .error (posOf toks at' e, 50) := by
      unfold nextP
      cases hg : toks[at']? with
      | none => rfl
      | some t' =>
        have h1 : at' < n := by have := (List.getElem?_eq_some_iff.1 hg).1; omega
        have h2 := htk h1
        rw [hg] at h2; cases h2
        refine if_neg fun hk => ?_
        rw [decide_eq_true (⟨h1, hk⟩ : at' < n ∧ t.Kind = kind)] at h; cases h
    rw [hP]
    exact ⟨rfl, at', hw.dropAt 1⟩
  · have h := key.symm.trans h
    have h : at' < n ∧ t.Kind = kind := by simpa using h
    have htk := htk h.1
    have hlt := h.1
    repeat (first | refine byW ?_ | (refine byV ?_; intro w hw))
    refine W_mixC [.blk bp _] (.blk b4 _ :: S) [] [[],[],[],[],[],[],[],[],[],[],[0]] (hw.ps [1]) ?_
    repeat (first | refine mY ?_ | refine mP ?_ | refine mPg ?_)
    refine mStepX (φ := fun (_ : Unit) _ => True) (R := fun _ => .blk b4 (.cells (enc (default : Tok)).toArray 53) :: S) (v := undef) (T' := Unit) (fun _ _ => True) (fun _ => .blk b4 (.cells (enc t).toArray 53) :: S) (fun t' g w Y _ hw => s_store (i := 0) (inferInstance : TSz Tryz.prog 53 5).h hw rfl rfl rfl rfl (fun u hu => (List.all_eq_true.1 (enc_one t)) u hu) rfl (Nat.le_refl 5) fun w' hw' => ⟨(), trivial, (fun _ => rfl), hw'⟩) ?_
    refine mEndX fun t' w g _ hw => ?_
    have hw : Wd Γ (.blk b4 (.cells (enc t).toArray 53) :: .blk bp (.cells #[.slice a n c, .int .i64 at', .int .i64 e.Line, .int .i64 e.Col] 62) :: S) w := hw.flip.ps [1]
    repeat (first | refine byW ?_ | (refine byV ?_; intro w hw))
    have hP : nextP toks e kind at' = .ok (t, at') := by unfold nextP; rw [htk]; exact if_pos h.2
    rw [hP]
    exact ⟨[.agg (enc t).toArray], ⟨resC (i := 0) hw rfl rfl rfl, trivial⟩, rfl, hw.drop⟩
theorem expect_any (kind : Int) (text : ByteArray) (ht : RepS Γ (.slice a n c) 5 (toks.map enc)) (hat : at' ≤ n) (hw : Wd Γ (parB bp a n c at' e :: S) w) :
    Calls Tryz.prog 102 #[.pointer (some ⟨bp, 0, none⟩), .int .i64 kind, .string text] w (Parses Γ S bp a n c e (fun _ : Unit => .tuple #[]) (expectP toks e kind text at')) := by
  have hn : n = toks.length ∧ n ≤ c ∧ c ≤ 9223372036854775807 := by obtain ⟨_, _, _, h1, h2, h3⟩ := ht.shape; cases h1; exact ⟨by simpa using h2, h3⟩
  obtain ⟨hn, hnc, hc⟩ := hn
  refine calls_of_W Tryz.func102 rfl rfl ?_
  repeat (first | refine byW ?_ | (refine byV ?_; intro w hw))
  refine lCall ?_
  refine (is_any kind text ht hw).mono ?_
  rintro r w ⟨rfl, hw⟩
  refine ⟨_, rfl, ?_⟩
  repeat (first | refine byW ?_ | (refine byV ?_; intro w hw))
  refine W_cond rfl (fun h => ?_) (fun h => ?_)
  · have h : ¬ isS toks at' kind text = true := by simpa using h
    have hP : expectP toks e kind text at' = .error (posOf toks at' e, 50) := if_neg h
    rw [hP]
    repeat (first | refine byW ?_ | (refine byV ?_; intro w hw))
    refine L_callE ?_
    refine (fail_any 50 ht hw).mono ?_
    rintro r w ⟨rfl, hw⟩
    exact ⟨rfl, at', hw⟩
  · have h : isS toks at' kind text = true := by simpa using h
    have hP : expectP toks e kind text at' = .ok ((), at' + 1) := if_pos h
    rw [hP]
    have hlt : at' < n := by
      unfold isS at h
      cases hg : toks[at']? with
      | none => rw [hg] at h; cases h
      | some t => have := (List.getElem?_eq_some_iff.1 hg).1; omega
    unfold parB at hw
    repeat (first | refine byW ?_ | (refine byV ?_; intro w hw))
    refine lStore ?_
    intro w hw
    have hw : Wd Γ (parB bp a n c (at' + 1) e :: S) w := hw
    repeat (first | refine byW ?_ | (refine byV ?_; intro w hw))
    exact ⟨_, rfl, rfl, hw⟩
end
end Go.Proofs.YtimbobmmijgkiaaGreatDoor
end
/- The program's parser: names and numbers. -/
section
open Go Mk
namespace Go.Proofs.YtimbobmmijgkiaaGreatDoor
set_option maxHeartbeats 4000000
attribute [local irreducible] Calls nextP

section
variable {Γ : Gho} {S : List Res} {w : World} {bp : Nat} {a : Option Addr} {n c at' : Nat} {e : PosT} {toks : List Tok}
theorem name_any (kind : Int) (ht : RepS Γ (.slice a n c) 5 (toks.map enc)) (hat : at' ≤ n) (hw : Wd Γ (parB bp a n c at' e :: S) w) :
    Calls Tryz.prog 103 #[.pointer (some ⟨bp, 0, none⟩), .int .i64 kind] w (Parses Γ S bp a n c e (fun s : ByteArray => .string s) (nameP toks e kind at')) := by
  have hn : n = toks.length ∧ n ≤ c ∧ c ≤ 9223372036854775807 := by obtain ⟨_, _, _, h1, h2, h3⟩ := ht.shape; cases h1; exact ⟨by simpa using h2, h3⟩
  obtain ⟨hn, hnc, hc⟩ := hn
  refine calls_of_W Tryz.func103 rfl rfl ?_
  repeat (first | refine byW ?_ | (refine byV ?_; intro w hw))
  refine L_callE ?_
  refine (next_any kind ht hat hw).mono ?_
  rintro r w hr
  cases hN : nextP toks e kind at' with
  | error q =>
    obtain ⟨p, er⟩ := q
    have hP : nameP toks e kind at' = .error (p, er) := by unfold nameP; rw [hN]
    rw [hN] at hr
    rw [hP]
    obtain ⟨rfl, hw⟩ := hr
    exact ⟨rfl, hw⟩
  | ok q =>
    obtain ⟨x, k⟩ := q
    obtain ⟨rfl, h1, h2⟩ := nextP_at hN
    have hP : nameP toks e kind k = if 24 < x.Text.size then .error (posOf toks k e, 63) else .ok (x.Text, k + 1) := by unfold nameP; rw [hN]
    rw [hN] at hr
    rw [hP]
    obtain ⟨rfl, hw⟩ := hr
    have hlt : k < n := by have := (List.getElem?_eq_some_iff.1 h1).1; omega
    show L _ _ _ _ _ _ _
    refine lAlloc ?_
    intro b5 w hw
    refine lStore ?_
    intro w hw
    have hw : Wd Γ (.blk b5 (.cells (enc x).toArray 53) :: .blk bp (.cells #[.slice a n c, .int .i64 k, .int .i64 e.Line, .int .i64 e.Col] 62) :: S) w := hw
    repeat (first | refine byW ?_ | (refine byV ?_; intro w hw))
    refine W_cond rfl (fun h => ?_) (fun h => ?_)
    · have h : 24 < x.Text.size := by simp at h; omega
      rw [if_pos h]
      repeat (first | refine byW ?_ | (refine byV ?_; intro w hw))
      refine L_callE ?_
      refine (fail_any (S := .blk b5 _ :: S) 63 ht (hw.ps [1])).mono ?_
      rintro r w ⟨rfl, hw⟩
      exact ⟨rfl, k, hw.dropAt 1⟩
    · have h : ¬ 24 < x.Text.size := by simp at h; omega
      rw [if_neg h]
      repeat (first | refine byW ?_ | (refine byV ?_; intro w hw))
      refine lStore ?_
      intro w hw
      have hw : Wd Γ (.blk b5 (.cells (enc x).toArray 53) :: .blk bp (.cells #[.slice a n c, .int .i64 (k + 1 : Nat), .int .i64 e.Line, .int .i64 e.Col] 62) :: S) w := hw
      repeat (first | refine byW ?_ | (refine byV ?_; intro w hw))
      exact ⟨_, rfl, rfl, hw.drop⟩
theorem pnumber_any (limited : Bool) (ht : RepS Γ (.slice a n c) 5 (toks.map enc)) (hat : at' ≤ n) (hw : Wd Γ (parB bp a n c at' e :: S) w) :
    Calls Tryz.prog 154 #[.pointer (some ⟨bp, 0, none⟩), .bool limited] w (Parses Γ S bp a n c e (fun v : Int => .int .u64 v) (numberP toks e limited at')) := by
  have hn : n = toks.length ∧ n ≤ c ∧ c ≤ 9223372036854775807 := by obtain ⟨_, _, _, h1, h2, h3⟩ := ht.shape; cases h1; exact ⟨by simpa using h2, h3⟩
  obtain ⟨hn, hnc, hc⟩ := hn
  refine calls_of_W Tryz.func154 rfl rfl ?_
  repeat (first | refine byW ?_ | (refine byV ?_; intro w hw))
  refine L_callE ?_
  refine (next_any 2 ht hat hw).mono ?_
  rintro r w hr
  cases hN : nextP toks e 2 at' with
  | error q =>
    obtain ⟨p, er⟩ := q
    have hP : numberP toks e limited at' = .error (p, er) := by unfold numberP; rw [hN]
    rw [hN] at hr
    rw [hP]
    obtain ⟨rfl, hw⟩ := hr
    exact ⟨rfl, hw⟩
  | ok q =>
    obtain ⟨x, k⟩ := q
    obtain ⟨rfl, h1, h2⟩ := nextP_at hN
    have hP : numberP toks e limited k = if limited = true ∧ 2147483647 < x.Value then .error (posOf toks k e, 6) else .ok (x.Value, k + 1) := by unfold numberP; rw [hN]
    rw [hN] at hr
    rw [hP]
    obtain ⟨rfl, hw⟩ := hr
    have hlt : k < n := by have := (List.getElem?_eq_some_iff.1 h1).1; omega
    show L _ _ _ _ _ _ _
    refine lAlloc ?_
    intro b5 w hw
    refine lStore ?_
    intro w hw
    have hw : Wd Γ (.blk b5 (.cells (enc x).toArray 53) :: .blk bp (.cells #[.slice a n c, .int .i64 k, .int .i64 e.Line, .int .i64 e.Col] 62) :: S) w := hw
    repeat (first | refine byW ?_ | (refine byV ?_; intro w hw))
    refine W_cond rfl (fun h => ?_) (fun h => ?_)
    · have h : limited = true ∧ 2147483647 < x.Value := by simpa using h
      rw [if_pos h]
      repeat (first | refine byW ?_ | (refine byV ?_; intro w hw))
      refine L_callE ?_
      refine (fail_any (S := .blk b5 _ :: S) 6 ht (hw.ps [1])).mono ?_
      rintro r w ⟨rfl, hw⟩
      exact ⟨rfl, k, hw.dropAt 1⟩
    · have h : ¬ (limited = true ∧ 2147483647 < x.Value) := fun hh => by simp [hh.1, hh.2] at h
      rw [if_neg h]
      repeat (first | refine byW ?_ | (refine byV ?_; intro w hw))
      refine lStore ?_
      intro w hw
      have hw : Wd Γ (.blk b5 (.cells (enc x).toArray 53) :: .blk bp (.cells #[.slice a n c, .int .i64 (k + 1 : Nat), .int .i64 e.Line, .int .i64 e.Col] 62) :: S) w := hw
      repeat (first | refine byW ?_ | (refine byV ?_; intro w hw))
      exact ⟨_, rfl, rfl, hw.drop⟩
end
end Go.Proofs.YtimbobmmijgkiaaGreatDoor
end
/- The program's parser: the attributes of an item. -/
section
open Go Mk
namespace Go.Proofs.YtimbobmmijgkiaaGreatDoor
set_option maxHeartbeats 4000000
attribute [local irreducible] Calls nextP numberP expectP isS posOf

theorem Contains_any {Γ : Gho} {S : List Res} {w : World} {v : Value} (xs : List ByteArray) (s : ByteArray) (hw : Wd Γ S w) (hr : RdS Γ S v 1 (xs.map fun x => [.string x])) :
    Calls Tryz.prog 191 #[v, .string s] w fun e w' => e = .returned (.bool (memB s xs)) ∧ Wd Γ S w' := by
  have hI : ∀ w, Wd Γ S w → Calls Tryz.prog 211 #[v, .string s] w fun e w' => ∃ i : Int, e = .returned (.int .i64 i) ∧ (decide (0 ≤ i) = memB s xs) ∧ Wd Γ S w' := by
    intro w hw
    obtain ⟨a, n, c, rfl, hn, hnc, hc⟩ := hr.shape
    simp only [List.length_map] at hn
    refine calls_of_W Tryz.func211 rfl rfl ?_
    repeat (first | refine byW ?_ | (refine byV ?_; intro w hw))
    refine W_loop (fun μ ρ w => ∃ (k : Nat), μ + k = n ∧ Has ρ [(0, .slice a n c), (1, .string s), (7, .int .i64 n), (8, .int .i64 k)] ∧ (∀ i x, i < k → xs[i]? = some x → x ≠ s) ∧ Wd Γ S w) n ⟨0, by omega, ⟨rfl, rfl, rfl, rfl, trivial⟩, fun i x h => by omega, hw⟩ ?_
    clear hw
    rintro μ ρ w ⟨k, hk, hρ, hno, hw⟩
    rw [hρ.eq]
    repeat (first | refine byW ?_ | (refine byV ?_; intro w hw))
    refine W_cond rfl (fun h => ?_) (fun h => ?_)
    · have hkn : k < n := by simpa using h
      obtain ⟨x, hx⟩ := get_lt (l := xs) (k := k) (by omega)
      repeat (first | refine byW ?_ | (refine byV ?_; intro w hw))
      refine W_cond rfl (fun h2 => ?_) (fun h2 => ?_)
      · have h2 : s = x := of_decide_eq_true h2
        repeat (first | refine byW ?_ | (refine byV ?_; intro w hw))
        exact ⟨_, rfl, k, rfl, by rw [decide_eq_true (show (0 : Int) ≤ k by omega)]; exact (List.any_eq_true.2 ⟨x, List.mem_of_getElem? hx, decide_eq_true h2⟩).symm, hw⟩
      · have h2 : ¬ s = x := of_decide_eq_false h2
        repeat (first | refine byW ?_ | (refine byV ?_; intro w hw))
        refine ⟨μ - 1, by omega, k + 1, by omega, ⟨rfl, rfl, rfl, rfl, trivial⟩, fun i y hi hy he => ?_, hw⟩
        by_cases e : i = k
        · subst e; rw [hx] at hy; cases hy; exact h2 he.symm
        · exact hno i y (by omega) hy he
    · have hkn : ¬ k < n := by simpa using h
      repeat (first | refine byW ?_ | (refine byV ?_; intro w hw))
      refine ⟨_, rfl, -1, rfl, ?_, hw⟩
      rw [decide_eq_false (show ¬ (0 : Int) ≤ -1 by decide)]
      symm
      refine List.any_eq_false.2 fun x hm he => ?_
      obtain ⟨i, hi, hx⟩ := List.getElem_of_mem hm
      exact hno i x (by omega) (by rw [List.getElem?_eq_getElem hi, hx]) (of_decide_eq_true he).symm
  refine calls_of_W Tryz.func191 rfl rfl ?_
  repeat (first | refine byW ?_ | (refine byV ?_; intro w hw))
  refine lCall ?_
  refine (hI w hw).mono ?_
  rintro e w ⟨i, rfl, hd, hw⟩
  refine ⟨_, rfl, ?_⟩
  repeat (first | refine byW ?_ | (refine byV ?_; intro w hw))
  exact ⟨_, rfl, ret_b rfl hd, hw⟩

/-- Numbers that lie elsewhere. -/
structure NumH where
  A : Option Addr
  N : Nat
  C : Nat
  L : List Int
instance : Inhabited NumH := ⟨⟨none, 0, 0, []⟩⟩
def numV (h : NumH) : Value := .slice h.A h.N h.C
def numRows (l : List Int) : List (List Value) := l.map fun x => [.int .u64 x]
def NOk (Γ : Gho) (h : NumH) : Prop := RepS Γ (numV h) 1 (numRows h.L)

def baseB : ByteArray := ⟨#[98, 97, 115, 101]⟩
def sizeB : ByteArray := ⟨#[115, 105, 122, 101]⟩
def coresB : ByteArray := ⟨#[99, 111, 114, 101, 115]⟩
def moreN (toks : List Tok) (e : PosT) (limited cores : Bool) : Nat → Nat → List Int → PR (List Int)
  | 0, k, acc => .ok (acc, k)
  | f + 1, k, acc => if (cores && isS toks k 4 commaB) = true then (match numberP toks e limited (k + 1) with | .ok (v, k1) => moreN toks e limited cores f k1 (acc ++ [v]) | .error q => .error q) else .ok (acc, k)
def limB (s : ByteArray) : Bool := decide (s ≠ baseB) && decide (s ≠ sizeB)
/-- One attribute. -/
def oneAttr (toks : List Tok) (e : PosT) (names : List ByteArray) (got : List (ByteArray × List Int)) (k : Nat) : PR (ByteArray × List Int) :=
  match nextP toks e 1 k with
  | .error q => .error q
  | .ok (t, _) =>
    if memB t.Text names = false then .error (posOf toks k e, 50)
    else if memB t.Text (got.map (·.1)) = true then .error (posOf toks k e, 56)
    else match numberP toks e (limB t.Text) (k + 1) with
      | .error q => .error q
      | .ok (v, k1) => match moreN toks e (limB t.Text) (decide (t.Text = coresB)) (toks.length + 1) k1 [v] with
        | .error q => .error q
        | .ok (l, k2) => match expectP toks e 4 semiB k2 with
          | .error q => .error q
          | .ok (_, k3) => .ok ((t.Text, l), k3)
def attrN (toks : List Tok) (e : PosT) (names : List ByteArray) : Nat → Nat → List (ByteArray × List Int) → PR (List (ByteArray × List Int))
  | 0, k, got => .ok (got, k)
  | f + 1, k, got => if isS toks k 4 closeB = true then .ok (got, k) else
    match oneAttr toks e names got k with
    | .error q => .error q
    | .ok (p, k3) => attrN toks e names f k3 (got ++ [p])
def attrP (toks : List Tok) (e : PosT) (names : List ByteArray) (k : Nat) : PR (List (ByteArray × List Int)) :=
  match expectP toks e 4 openB k with
  | .error q => .error q
  | .ok (_, k1) => match attrN toks e names (toks.length + 1) k1 [] with
    | .error q => .error q
    | .ok (got, k2) => if got.length < names.length then .error (posOf toks k2 e, 50) else .ok (got, k2 + 1)

end Go.Proofs.YtimbobmmijgkiaaGreatDoor
end
/- The program's parser: the attributes of an item, walked. -/
section
open Go Mk
namespace Go.Proofs.YtimbobmmijgkiaaGreatDoor
set_option maxHeartbeats 4000000
theorem moreN_step {toks : List Tok} {e : PosT} {l c : Bool} {f k : Nat} {acc : List Int} (h : (c && isS toks k 4 commaB) = true) : moreN toks e l c (f + 1) k acc = match numberP toks e l (k + 1) with | .ok (v, k1) => moreN toks e l c f k1 (acc ++ [v]) | .error q => .error q := if_pos h
theorem moreN_stop {toks : List Tok} {e : PosT} {l c : Bool} {f k : Nat} {acc : List Int} (h : ¬ (c && isS toks k 4 commaB) = true) : moreN toks e l c (f + 1) k acc = .ok (acc, k) := if_neg h
theorem aSet_newN {β : Type} {m : List (ByteArray × β)} {a : ByteArray} {v : β} (h : aGet m a = none) : aSet m a v = m ++ [(a, v)] := by
  unfold aGet at h
  unfold aSet
  cases hi : aIx m a with
  | none => rfl
  | some i =>
    obtain ⟨u, hu⟩ := aIx_get hi
    rw [hi] at h
    simp [hu] at h
attribute [local irreducible] Calls nextP numberP expectP isS posOf moreN memB

theorem y_fldS {P : Program} {d : Option Tmp} {T ty : TypeId} {pos : String} {es : Array Edge} {g : Option (Nat × Bool)} {x : Operand} {ρ : Fr} {w : World} {v : Value} {f : Nat} {fs : Array Field} {fl : Field} {vs : Array Value} (hu : P.underlying T = some (.struct fs)) (hf : fs[f]? = some fl) (hx : ev ρ x = .agg vs) (hs : scal P fl.type = true) (hv : vs[fl.offset]? = some v) : Mk.Yields P ⟨d, .field T x f, ty, pos, es, g⟩ ρ w v := by
  unfold Mk.Yields; simp [execOp, go_sem, hx, hf, Instr.field, run_underlying hu, part, asAgg, scal_isAgg hs, hv]
abbrev strRows (l : List ByteArray) : List (List Value) := l.map fun x => [.string x]
theorem memB_get {ms : List (ByteArray × NumH)} {s : ByteArray} : memB s ((ms.map fun p => (p.1, p.2.L)).map (·.1)) = (aGet ms s).isSome := by
  unfold memB aGet aIx
  rw [List.map_map, List.any_map]
  cases hf : ms.findIdx? (fun p => decide (p.1 = s)) with
  | none =>
    rw [List.findIdx?_eq_none_iff] at hf
    refine List.any_eq_false.2 fun p hp he => ?_
    have h1 := hf p hp
    have h2 : s = p.1 := of_decide_eq_true he
    rw [h2] at h1; simp at h1
  | some i =>
    obtain ⟨hi, hp, -⟩ := List.findIdx?_eq_some_iff_getElem.1 hf
    rw [List.any_eq_true.2 ⟨ms[i], List.getElem_mem hi, by
      have := of_decide_eq_true hp
      exact decide_eq_true this.symm⟩]
    simp [List.getElem?_eq_getElem hi]
section
variable {Γ : Gho} {S : List Res} {w : World} {bp : Nat} {a : Option Addr} {n c at' : Nat} {e : PosT} {toks : List Tok}
theorem attributes_any (names : List ByteArray) (vn : Value) (ht : RepS Γ (.slice a n c) 5 (toks.map enc)) (hbig : n ≤ 1000000) (hat : at' ≤ n) (hnl : names.length ≤ 8) (hw : Wd Γ (parB bp a n c at' e :: .own vn 9 1 (strRows names) :: S) w) :
    Calls Tryz.prog 155 #[.pointer (some ⟨bp, 0, none⟩), vn] w fun r w' => ∃ Γ', Γ.le Γ' ∧ (match attrP toks e names at' with
      | .ok (got, k) => ∃ (bm : Nat) (ms : List (ByteArray × NumH)), r = .returned (.map (some bm)) ∧ ms.map (fun p => (p.1, p.2.L)) = got ∧ (∀ p ∈ ms, NOk Γ' p.2) ∧ Wd Γ' (Res.ms numV bm ms :: parB bp a n c k e :: .own vn 9 1 (strRows names) :: S) w'
      | .error (p, er) => r = .panicked [failE p er] ∧ ∃ k, Wd Γ' (parB bp a n c k e :: .own vn 9 1 (strRows names) :: S) w') := by
  have hn : n = toks.length ∧ n ≤ c ∧ c ≤ 9223372036854775807 := by obtain ⟨_, _, _, h1, h2, h3⟩ := ht.shape; cases h1; exact ⟨by simpa using h2, h3⟩
  obtain ⟨hn, hnc, hc⟩ := hn
  obtain ⟨an, nn, cn, rfl, hnn, hnnc, hcn⟩ := hw.own_shape (i := 1) rfl
  simp only [List.length_map] at hnn
  refine calls_of_W Tryz.func155 rfl rfl ?_
  repeat (first | refine byW ?_ | (refine byV ?_; intro w hw))
  refine lMakeMapS numV ?_
  intro bm w hw
  repeat (first | refine byW ?_ | (refine byV ?_; intro w hw))
  refine L_callE ?_
  refine (expect_any (S := Res.ms numV bm [] :: .own _ _ _ _ :: S) 4 openB ht hat (hw.ps [0, 1])).mono ?_
  rintro r w hr
  unfold attrP
  cases hN : expectP toks e 4 openB at' with
  | error q =>
    obtain ⟨p, er⟩ := q
    rw [hN] at hr
    obtain ⟨rfl, k, hw⟩ := hr
    exact ⟨Γ, Gho.le.refl _, rfl, k, hw.dropAt 1⟩
  | ok q =>
    obtain ⟨⟨⟩, k0⟩ := q
    obtain ⟨hk0, hlt0⟩ := expectP_at hN
    rw [hN] at hr
    obtain ⟨rfl, hw⟩ := hr
    dsimp only
    show L _ _ _ _ _ _ _
    repeat (first | refine byW ?_ | (refine byV ?_; intro w hw))
    refine W_loop (fun μ ρ w => ∃ (k : Nat) (ms : List (ByteArray × NumH)) (Γ' : Gho), k ≤ n ∧ n < μ + k ∧ Has ρ [(0, .pointer (some ⟨bp, 0, none⟩)), (1, .slice an nn cn), (5, .map (some bm))] ∧ Γ.le Γ' ∧ (∀ p ∈ ms, NOk Γ' p.2) ∧ attrN toks e names (toks.length + 1) k0 [] = attrN toks e names μ k (ms.map fun p => (p.1, p.2.L)) ∧ Wd Γ' (parB bp a n c k e :: Res.ms numV bm ms :: .own (.slice an nn cn) 9 1 (strRows names) :: S) w) (toks.length + 1) ⟨k0, [], Γ, by omega, by omega, ⟨rfl, rfl, rfl, trivial⟩, Gho.le.refl _, by simp, rfl, hw⟩ ?_
    clear hw hN
    rintro μ ρ w ⟨k, ms, Γ', hk, hμ, hρ, hle, hok, hA, hw⟩
    rw [hρ.eq]
    obtain ⟨f, rfl⟩ : ∃ f, μ = f + 1 := ⟨μ - 1, by omega⟩
    have ht' := ht.mono hle
    rw [hA]
    repeat (first | refine byW ?_ | (refine byV ?_; intro w hw))
    refine lCall ?_
    refine (is_any 4 closeB ht' hw).mono ?_
    rintro r w ⟨rfl, hw⟩
    refine ⟨_, rfl, ?_⟩
    repeat (first | refine byW ?_ | (refine byV ?_; intro w hw))
    refine W_cond rfl (fun h => ?_) (fun h => ?_)
    · have h : ¬ isS toks k 4 closeB = true := by simpa using h
      have hS : attrN toks e names (f + 1) k (ms.map fun p => (p.1, p.2.L)) = match oneAttr toks e names (ms.map fun p => (p.1, p.2.L)) k with
        | .error q => .error q
        | .ok (p, k3) => attrN toks e names f k3 ((ms.map fun p => (p.1, p.2.L)) ++ [p]) := if_neg h
      rw [hS]
      repeat (first | refine byW ?_ | (refine byV ?_; intro w hw))
      refine L_callE ?_
      refine (next_any 1 ht' hk hw).mono ?_
      rintro r w hr
      unfold oneAttr
      cases hN : nextP toks e 1 k with
      | error q =>
        obtain ⟨p, er⟩ := q
        rw [hN] at hr
        obtain ⟨rfl, k', hw⟩ := hr
        dsimp only
        exact ⟨Γ', hle, rfl, k', hw.dropAt 1⟩
      | ok q =>
        obtain ⟨t, j⟩ := q
        obtain ⟨hj, ht1, -⟩ := nextP_at hN
        subst j
        have hkn : k < n := by have := (List.getElem?_eq_some_iff.1 ht1).1; omega
        rw [hN] at hr
        obtain ⟨rfl, hw⟩ := hr
        dsimp only
        show L _ _ _ _ _ _ _
        repeat (first | refine byW ?_ | (refine byV ?_; intro w hw))
        refine lY (v := .string t.Text) ?_ (hy := y_fldS Tryz.underlying53 rfl rfl (TS.h (P := Tryz.prog) (T := 9)) rfl)
        repeat (first | refine byW ?_ | (refine byV ?_; intro w hw))
        refine lCall ?_
        refine (Contains_any names t.Text hw (RdS.own (i := 2) hw rfl)).mono ?_
        rintro r w ⟨rfl, hw⟩
        refine ⟨_, rfl, ?_⟩
        repeat (first | refine byW ?_ | (refine byV ?_; intro w hw))
        refine W_cond rfl (fun h2 => ?_) (fun h2 => ?_)
        · have h2 : memB t.Text names = false := by simpa using h2
          rw [if_pos h2]
          repeat (first | refine byW ?_ | (refine byV ?_; intro w hw))
          refine L_callE ?_
          refine (fail_any 50 ht' hw).mono ?_
          rintro r w ⟨rfl, hw⟩
          dsimp only
          exact ⟨Γ', hle, rfl, k, hw.dropAt 1⟩
        have h2 : ¬ memB t.Text names = false := by simpa using h2
        rw [if_neg h2, memB_get]
        repeat (first | refine byW ?_ | (refine byV ?_; intro w hw))
        refine W_cond rfl (fun h3 => ?_) (fun h3 => ?_)
        · rw [if_pos h3]
          repeat (first | refine byW ?_ | (refine byV ?_; intro w hw))
          refine L_callE ?_
          refine (fail_any 56 ht' hw).mono ?_
          rintro r w ⟨rfl, hw⟩
          dsimp only
          exact ⟨Γ', hle, rfl, k, hw.dropAt 1⟩
        rw [if_neg (by rw [h3]; simp)]
        unfold parB at hw
        repeat (first | refine byW ?_ | (refine byV ?_; intro w hw))
        refine lStore ?_
        intro w hw
        have hw : Wd Γ' (parB bp a n c (k + 1) e :: Res.ms numV bm ms :: .own (.slice an nn cn) 9 1 (strRows names) :: S) w := hw
        repeat (first | refine byW ?_ | (refine byV ?_; intro w hw))
        refine L_callE ?_
        refine (pnumber_any (limB t.Text) ht' (by omega) hw).mono ?_
        rintro r w hr
        cases hM : numberP toks e (limB t.Text) (k + 1) with
        | error q =>
          obtain ⟨p, er⟩ := q
          rw [hM] at hr
          obtain ⟨rfl, k', hw⟩ := hr
          dsimp only
          exact ⟨Γ', hle, rfl, k', hw.dropAt 1⟩
        | ok q =>
          obtain ⟨v, k1⟩ := q
          obtain ⟨hk1, hk1n⟩ := numberP_at hM
          rw [hM] at hr
          obtain ⟨rfl, hw⟩ := hr
          dsimp only
          show L _ _ _ _ _ _ _
          refine lBuildSlice [[.int .u64 v]] ?_
          intro a51 w hw
          repeat (first | refine byW ?_ | (refine byV ?_; intro w hw))
          obtain ⟨got, hgot⟩ : ∃ got, got = (.slice (some a51) 1 1 : Value) := ⟨_, rfl⟩
          refine W_loop (fun μ ρ w => ∃ (kk : Nat) (acc : List Int) (v' : Value), kk ≤ n ∧ n < μ + kk ∧ k < kk ∧ acc.length ≤ kk ∧ Has ρ [(0, .pointer (some ⟨bp, 0, none⟩)), (1, .slice an nn cn), (5, .map (some bm)), (6, .string t.Text), (9, .bool (limB t.Text)), (10, v')] ∧ moreN toks e (limB t.Text) (decide (t.Text = coresB)) (toks.length + 1) k1 [v] = moreN toks e (limB t.Text) (decide (t.Text = coresB)) μ kk acc ∧ Wd Γ' (.own v' 45 1 (numRows acc) :: parB bp a n c kk e :: Res.ms numV bm ms :: .own (.slice an nn cn) 9 1 (strRows names) :: S) w) (toks.length + 1) ⟨k1, [v], _, by omega, by omega, by omega, by simp; omega, ⟨rfl, rfl, rfl, rfl, rfl, rfl, trivial⟩, rfl, hw⟩ ?_
          clear hw hgot hA hS
          rintro μ ρ w ⟨kk, acc, v', hkk, hμ2, hkk0, hacc, hρ, hB, hw⟩
          obtain ⟨f2, rfl⟩ : ∃ f2, μ = f2 + 1 := ⟨μ - 1, by omega⟩
          rw [hB]
          refine W_seq ?_
          refine W_cut (fun ρ w => Has ρ [(0, .pointer (some ⟨bp, 0, none⟩)), (1, .slice an nn cn), (5, .map (some bm)), (6, .string t.Text), (9, .bool (limB t.Text)), (10, v'), (57, .bool (decide (t.Text = coresB) && isS toks kk 4 commaB))] ∧ Wd Γ' (.own v' 45 1 (numRows acc) :: parB bp a n c kk e :: Res.ms numV bm ms :: .own (.slice an nn cn) 9 1 (strRows names) :: S) w) ?_ ?_
          · rw [hρ.eq]
            refine W_region ?_
            iterate 3 (first | refine byW ?_ | (refine byV ?_; intro w hw))
            by_cases hcz : t.Text = coresB
            · refine lGT ?_ (hct := decide_eq_true hcz)
              first | refine byW ?_ | (refine byV ?_; intro w hw)
              refine lGT ?_ (hct := decide_eq_true hcz)
              refine lCall ?_
              refine (is_any 4 commaB ht' (hw.ps [1])).mono ?_
              rintro r w ⟨rfl, hw⟩
              refine ⟨_, rfl, ?_⟩
              refine lY (v := .bool (isS toks kk 4 commaB)) ?_ (hy := y_pickT (congrArg Value.bool (decide_eq_true hcz)) rfl)
              repeat (first | refine byW ?_ | (refine byV ?_; intro w hw))
              rw [decide_eq_true hcz]
              exact ⟨⟨rfl, rfl, rfl, rfl, rfl, rfl, rfl, trivial⟩, hw.ps [1]⟩
            · refine lGF ?_ (hct := decide_eq_false hcz)
              refine lGF ?_ (hct := decide_eq_false hcz)
              refine lY (v := .bool false) ?_ (hy := y_pickF (congrArg Value.bool (decide_eq_false hcz)) rfl)
              repeat (first | refine byW ?_ | (refine byV ?_; intro w hw))
              rw [decide_eq_false hcz]
              exact ⟨⟨rfl, rfl, rfl, rfl, rfl, rfl, rfl, trivial⟩, hw⟩
          clear hw hρ
          rintro ρ w ⟨hρ, hw⟩
          rw [hρ.eq]
          refine W_cond rfl (fun h4 => ?_) (fun h4 => ?_)
          · have hlt4 := isS_lt (by simp only [Bool.and_eq_true] at h4; exact h4.2)
            rw [moreN_step h4]
            unfold parB at hw
            repeat (first | refine byW ?_ | (refine byV ?_; intro w hw))
            refine lStore ?_
            intro w hw
            have hw : Wd Γ' (.own v' 45 1 (numRows acc) :: parB bp a n c (kk + 1) e :: Res.ms numV bm ms :: .own (.slice an nn cn) 9 1 (strRows names) :: S) w := hw
            repeat (first | refine byW ?_ | (refine byV ?_; intro w hw))
            refine L_callE ?_
            refine (pnumber_any (limB t.Text) ht' (by omega) (hw.ps [1])).mono ?_
            rintro r w hr
            cases hM : numberP toks e (limB t.Text) (kk + 1) with
            | error q =>
              obtain ⟨p, er⟩ := q
              rw [hM] at hr
              obtain ⟨rfl, k', hw⟩ := hr
              dsimp only
              exact ⟨Γ', hle, rfl, k', (hw.dropAt 1).dropAt 1⟩
            | ok q =>
              obtain ⟨v2, k2⟩ := q
              obtain ⟨hk2, hk2n⟩ := numberP_at hM
              rw [hM] at hr
              obtain ⟨rfl, hw⟩ := hr
              dsimp only
              show L _ _ _ _ _ _ _
              refine lBuildSlice [[.int .u64 v2]] ?_
              intro a69 w hw
              have hw := hw.ps [2]
              obtain ⟨a2, n2, c2, rfl, hn2, -, -⟩ := hw.own_shape (i := 0) rfl
              refine lApp (i := 0) (rows2 := [[.int .u64 v2]]) ?_ (Wd.own_rd (i := 1) hw rfl) (hb := by simp [numRows] at hn2; omega) (h63 := by simp [numRows] at hn2; omega)
              intro v3 w hw
              have hw := (show Wd Γ' (.own v3 45 1 (numRows acc ++ [[.int .u64 v2]]) :: .own _ _ _ _ :: parB bp a n c k2 e :: Res.ms numV bm ms :: .own (.slice an nn cn) 9 1 (strRows names) :: S) w from hw).dropAt 1
              rw [show numRows acc ++ [[.int .u64 v2]] = numRows (acc ++ [v2]) by simp [numRows]] at hw
              repeat (first | refine byW ?_ | (refine byV ?_; intro w hw))
              exact ⟨f2, by omega, k2, acc ++ [v2], v3, by omega, by omega, by omega, by simp; omega, ⟨rfl, rfl, rfl, rfl, rfl, rfl, trivial⟩, rfl, hw⟩
          · have h4 : ¬ (decide (t.Text = coresB) && isS toks kk 4 commaB) = true := by rw [h4]; simp
            rw [moreN_stop h4]
            dsimp only
            repeat (first | refine byW ?_ | (refine byV ?_; intro w hw))
            refine L_callE ?_
            refine (expect_any 4 semiB ht' hkk (hw.ps [1])).mono ?_
            rintro r w hr
            cases hE : expectP toks e 4 semiB kk with
            | error q =>
              obtain ⟨p, er⟩ := q
              rw [hE] at hr
              obtain ⟨rfl, k', hw⟩ := hr
              dsimp only
              exact ⟨Γ', hle, rfl, k', (hw.dropAt 1).dropAt 1⟩
            | ok q =>
              obtain ⟨⟨⟩, k3⟩ := q
              obtain ⟨hk3, hk3n⟩ := expectP_at hE
              rw [hE] at hr
              obtain ⟨rfl, hw⟩ := hr
              dsimp only
              show L _ _ _ _ _ _ _
              have hw := hw.ps [1]
              obtain ⟨a2, n2, c2, rfl, -, -, -⟩ := hw.own_shape (i := 0) rfl
              obtain ⟨Γ2, hle2, hr2, hw⟩ := hw.freeze
              repeat (first | refine byW ?_ | (refine byV ?_; intro w hw))
              refine lMapUpdS (i := 1) (v := (⟨a2, n2, c2, acc⟩ : NumH)) ?_
              intro w hw
              have hg : aGet ms t.Text = none := by simpa using h3
              rw [aSet_newN hg] at hw
              repeat (first | refine byW ?_ | (refine byV ?_; intro w hw))
              have hw : Wd Γ2 (parB bp a n c k3 e :: Res.ms numV bm (ms ++ [(t.Text, (⟨a2, n2, c2, acc⟩ : NumH))]) :: .own (.slice an nn cn) 9 1 (strRows names) :: S) w := hw
              refine ⟨f, by omega, k3, ms ++ [(t.Text, ⟨a2, n2, c2, acc⟩)], Γ2, by omega, by omega, ⟨rfl, rfl, rfl, trivial⟩, Gho.le.trans hle hle2, ?_, by rw [List.map_append]; rfl, hw⟩
              intro p hp
              rcases List.mem_append.1 hp with hp | hp
              · exact RepS.mono (hok p hp) hle2
              · cases List.mem_singleton.1 hp; exact hr2
    · have h : isS toks k 4 closeB = true := by simpa using h
      have hS : attrN toks e names (f + 1) k (ms.map fun p => (p.1, p.2.L)) = .ok (ms.map fun p => (p.1, p.2.L), k) := if_pos h
      rw [hS]
      dsimp only
      have hlt := isS_lt h
      repeat (first | refine byW ?_ | (refine byV ?_; intro w hw))
      refine W_cond rfl (fun h2 => ?_) (fun h2 => ?_)
      · have h2 : (ms.map fun p => (p.1, p.2.L)).length < names.length := by simp at h2 ⊢; omega
        rw [if_pos h2]
        repeat (first | refine byW ?_ | (refine byV ?_; intro w hw))
        refine L_callE ?_
        refine (fail_any 50 ht' hw).mono ?_
        rintro r w ⟨rfl, hw⟩
        exact ⟨Γ', hle, rfl, k, hw.dropAt 1⟩
      · have h2 : ¬ (ms.map fun p => (p.1, p.2.L)).length < names.length := by simp at h2 ⊢; omega
        rw [if_neg h2]
        unfold parB at hw
        repeat (first | refine byW ?_ | (refine byV ?_; intro w hw))
        refine lStore ?_
        intro w hw
        have hw : Wd Γ' (parB bp a n c (k + 1) e :: Res.ms numV bm ms :: .own (.slice an nn cn) 9 1 (strRows names) :: S) w := hw
        repeat (first | refine byW ?_ | (refine byV ?_; intro w hw))
        exact ⟨_, rfl, Γ', hle, bm, ms, rfl, rfl, hok, hw.ps [1]⟩
end
end Go.Proofs.YtimbobmmijgkiaaGreatDoor
end
/- The program's parser: what an item adds to a description. -/
section
open Go Mk
namespace Go.Proofs.YtimbobmmijgkiaaGreatDoor
set_option maxHeartbeats 4000000
attribute [local irreducible] Calls nextP numberP expectP isS posOf memB nameP

structure CoreT where
  ID : Int
  Width : Int
  Node : Int
  Speed : Int
  deriving DecidableEq, Inhabited
instance : GoT CoreT where
  enc a := [.int .i64 a.ID, .int .i64 a.Width, .int .i64 a.Node, .int .i64 a.Speed]
  inj a b h := by cases a; cases b; simp at h; simp [h]
  ks := [5, 5, 5, 5]
  kinds a := rfl
structure LinkT where
  A : Int
  B : Int
  Latency : Int
  deriving DecidableEq, Inhabited
instance : GoT LinkT where
  enc a := [.int .i64 a.A, .int .i64 a.B, .int .i64 a.Latency]
  inj a b h := by cases a; cases b; simp at h; simp [h]
  ks := [5, 5, 5]
  kinds a := rfl
structure MemT where
  Name : ByteArray
  Base : Int
  Size : Int
  Node : Int
  Latency : Int
  deriving DecidableEq, Inhabited
instance : GoT MemT where
  enc a := [.string a.Name, .int .u64 a.Base, .int .u64 a.Size, .int .i64 a.Node, .int .i64 a.Latency]
  inj a b h := by cases a; cases b; simp at h; simp [h]
  ks := [1, 9, 9, 5, 5]
  kinds a := rfl
structure DevT where
  Name : ByteArray
  Node : Int
  IRQ : Int
  Base : Int
  Size : Int
  deriving DecidableEq, Inhabited
instance : GoT DevT where
  enc a := [.string a.Name, .int .i64 a.Node, .int .i64 a.IRQ, .int .u64 a.Base, .int .u64 a.Size]
  inj a b h := by cases a; cases b; simp at h; simp [h]
  ks := [1, 5, 5, 9, 9]
  kinds a := rfl
structure CacheT where
  Name : ByteArray
  Level : Int
  Line : Int
  Size : Int
  Cores : List Int
  deriving DecidableEq, Inhabited
/-- A cache in memory: its list of cores lies elsewhere. -/
structure CacheH where
  Name : ByteArray
  Level : Int
  Line : Int
  Size : Int
  A : Option Addr
  N : Nat
  C : Nat
  Cores : List Int
instance : Inhabited CacheH := ⟨⟨⟨#[]⟩, 0, 0, 0, none, 0, 0, []⟩⟩
def CacheH.T (c : CacheH) : CacheT := ⟨c.Name, c.Level, c.Line, c.Size, c.Cores⟩
def cC (c : CacheH) : List Value := [.string c.Name, .int .i64 c.Level, .int .i64 c.Line, .int .u64 c.Size, .slice c.A c.N c.C]
def intRows (l : List Int) : List (List Value) := l.map fun x => [.int .i64 x]
def COk (Γ : Gho) (c : CacheH) : Prop := RepS Γ (.slice c.A c.N c.C) 1 (intRows c.Cores)
structure HwT where
  Name : ByteArray
  Cores : List CoreT
  Caches : List CacheT
  Links : List LinkT
  Mems : List MemT
  Devs : List DevT
  deriving DecidableEq
instance : Inhabited HwT := ⟨⟨⟨#[]⟩, [], [], [], [], []⟩⟩
/-- A description in memory, owned. -/
def HwIn (Γ : Gho) (F : List Res) (hb : Nat) (H : HwT) (S : List Res) (w : World) : Prop := ∃ (v1 v2 v3 v4 v5 : Value) (cs : List CacheH), cs.map CacheH.T = H.Caches ∧ (∀ c ∈ cs, COk Γ c) ∧
  Wd Γ (F ++ .blk hb (.cells #[.string H.Name, v1, v2, v3, v4, v5] 35) :: .own v1 77 4 (H.Cores.map enc) :: .own v2 79 5 (cs.map cC) :: .own v3 82 3 (H.Links.map enc) :: .own v4 47 5 (H.Mems.map enc) :: .own v5 84 5 (H.Devs.map enc) :: S) w

def widthB : ByteArray := ⟨#[119, 105, 100, 116, 104]⟩
def nodeB : ByteArray := ⟨#[110, 111, 100, 101]⟩
def speedB : ByteArray := ⟨#[115, 112, 101, 101, 100]⟩
def levelB : ByteArray := ⟨#[108, 101, 118, 101, 108]⟩
def lineB : ByteArray := ⟨#[108, 105, 110, 101]⟩
def latencyB : ByteArray := ⟨#[108, 97, 116, 101, 110, 99, 121]⟩
def irqB : ByteArray := ⟨#[105, 114, 113]⟩
def coreB : ByteArray := ⟨#[99, 111, 114, 101]⟩
def cacheB : ByteArray := ⟨#[99, 97, 99, 104, 101]⟩
def linkB : ByteArray := ⟨#[108, 105, 110, 107]⟩
def memoryB : ByteArray := ⟨#[109, 101, 109, 111, 114, 121]⟩
def deviceB : ByteArray := ⟨#[100, 101, 118, 105, 99, 101]⟩

abbrev Got := List (ByteArray × List Int)
def numOf (got : Got) (s : ByteArray) : Int := ((aGet got s).getD []).headD 0
def intOf (got : Got) (s : ByteArray) : Int := IntKind.i64.wrap (numOf got s)
def coreP (toks : List Tok) (e : PosT) (k : Nat) : PR CoreT := match numberP toks e true k with
  | .error q => .error q
  | .ok (id, k1) => match attrP toks e [widthB, nodeB, speedB] k1 with
    | .error q => .error q
    | .ok (a, k2) => .ok (⟨IntKind.i64.wrap id, intOf a widthB, intOf a nodeB, intOf a speedB⟩, k2)
def cacheP (toks : List Tok) (e : PosT) (k : Nat) : PR CacheT := match nameP toks e 1 k with
  | .error q => .error q
  | .ok (s, k1) => match attrP toks e [levelB, lineB, sizeB, coresB] k1 with
    | .error q => .error q
    | .ok (a, k2) => .ok (⟨s, intOf a levelB, intOf a lineB, numOf a sizeB, ((aGet a coresB).getD []).map fun v => IntKind.i64.wrap v⟩, k2)
def linkP (toks : List Tok) (e : PosT) (k : Nat) : PR LinkT := match numberP toks e true k with
  | .error q => .error q
  | .ok (x, k1) => match numberP toks e true k1 with
    | .error q => .error q
    | .ok (y, k2) => match attrP toks e [latencyB] k2 with
      | .error q => .error q
      | .ok (a, k3) => .ok (⟨IntKind.i64.wrap x, IntKind.i64.wrap y, intOf a latencyB⟩, k3)
def memP (toks : List Tok) (e : PosT) (k : Nat) : PR MemT := match nameP toks e 1 k with
  | .error q => .error q
  | .ok (s, k1) => match attrP toks e [baseB, sizeB, nodeB, latencyB] k1 with
    | .error q => .error q
    | .ok (a, k2) => .ok (⟨s, numOf a baseB, numOf a sizeB, intOf a nodeB, intOf a latencyB⟩, k2)
def devP (toks : List Tok) (e : PosT) (k : Nat) : PR DevT := match nameP toks e 1 k with
  | .error q => .error q
  | .ok (s, k1) => match attrP toks e [nodeB, irqB, baseB, sizeB] k1 with
    | .error q => .error q
    | .ok (a, k2) => .ok (⟨s, intOf a nodeB, intOf a irqB, numOf a baseB, numOf a sizeB⟩, k2)
def PR.map {α β : Type} (f : α → β) : PR α → PR β
  | .ok (x, k) => .ok (f x, k)
  | .error q => .error q
def itemP (toks : List Tok) (e : PosT) (k : Nat) (H : HwT) : PR HwT := match nextP toks e 1 k with
  | .error q => .error q
  | .ok (t, _) =>
    if t.Text = coreB then PR.map (fun c => { H with Cores := H.Cores ++ [c] }) (coreP toks e (k + 1))
    else if t.Text = cacheB then PR.map (fun c => { H with Caches := H.Caches ++ [c] }) (cacheP toks e (k + 1))
    else if t.Text = linkB then PR.map (fun c => { H with Links := H.Links ++ [c] }) (linkP toks e (k + 1))
    else if t.Text = memoryB then PR.map (fun c => { H with Mems := H.Mems ++ [c] }) (memP toks e (k + 1))
    else if t.Text = deviceB then PR.map (fun c => { H with Devs := H.Devs ++ [c] }) (devP toks e (k + 1))
    else .error (posOf toks k e, 50)
def itemsP (toks : List Tok) (e : PosT) : Nat → Nat → HwT → PR HwT
  | 0, k, H => .ok (H, k)
  | f + 1, k, H => if isS toks k 4 closeB = true then .ok (H, k) else match itemP toks e k H with
    | .error q => .error q
    | .ok (H', k') => itemsP toks e f k' H'
def machineB : ByteArray := ⟨#[109, 97, 99, 104, 105, 110, 101]⟩
def hardwareP (toks : List Tok) (e : PosT) : PR HwT := match expectP toks e 1 machineB 0 with
  | .error q => .error q
  | .ok (_, k1) => match nameP toks e 3 k1 with
    | .error q => .error q
    | .ok (s, k2) => match expectP toks e 4 openB k2 with
      | .error q => .error q
      | .ok (_, k3) => match itemsP toks e (toks.length + 1) k3 ⟨s, [], [], [], [], []⟩ with
        | .error q => .error q
        | .ok (H, k4) => if k4 + 1 < toks.length then .error (posOf toks (k4 + 1) e, 50) else .ok (H, k4 + 1)

/-! ### what an attribute list holds -/
theorem aGet_some_iff {β : Type} {l : List (ByteArray × β)} {s : ByteArray} : (∃ v, aGet l s = some v) ↔ s ∈ l.map (·.1) := by
  unfold aGet aIx
  constructor
  · rintro ⟨v, h⟩
    cases hf : l.findIdx? (fun p => decide (p.1 = s)) with
    | none => rw [hf] at h; cases h
    | some i =>
      obtain ⟨hi, hp, -⟩ := List.findIdx?_eq_some_iff_getElem.1 hf
      exact List.mem_map.2 ⟨l[i], List.getElem_mem hi, of_decide_eq_true hp⟩
  · intro h
    obtain ⟨p, hp, he⟩ := List.mem_map.1 h
    cases hf : l.findIdx? (fun p => decide (p.1 = s)) with
    | none =>
      rw [List.findIdx?_eq_none_iff] at hf
      have := hf p hp
      simp [he] at this
    | some i =>
      obtain ⟨hi, -, -⟩ := List.findIdx?_eq_some_iff_getElem.1 hf
      exact ⟨l[i].2, by simp [List.getElem?_eq_getElem hi]⟩
theorem aGet_mem {β : Type} {l : List (ByteArray × β)} {s : ByteArray} {v : β} (h : aGet l s = some v) : (s, v) ∈ l := by
  unfold aGet aIx at h
  cases hf : l.findIdx? (fun p => decide (p.1 = s)) with
  | none => rw [hf] at h; cases h
  | some i =>
    obtain ⟨hi, hp, -⟩ := List.findIdx?_eq_some_iff_getElem.1 hf
    rw [hf] at h
    simp [List.getElem?_eq_getElem hi] at h
    have hp : l[i].1 = s := of_decide_eq_true hp
    have : l[i] = (s, v) := by rw [← hp, ← h]
    rw [← this]; exact List.getElem_mem hi
theorem nodup_le {α : Type} [DecidableEq α] : ∀ (ks L : List α), ks.Nodup → (∀ x ∈ ks, x ∈ L) → ks.length ≤ L.length
  | [], _, _, _ => Nat.zero_le _
  | k :: ks, L, hn, hs => by
    have hk := hs k (List.mem_cons_self ..)
    have h1 := nodup_le ks (L.erase k) (List.nodup_cons.1 hn).2 fun x hx => by
      refine (List.mem_erase_of_ne ?_).2 (hs x (List.mem_cons_of_mem _ hx))
      rintro rfl; exact (List.nodup_cons.1 hn).1 hx
    rw [List.length_erase_of_mem hk] at h1
    have := List.length_pos_of_mem hk
    simp; omega
theorem nodup_all {α : Type} [DecidableEq α] {ks L : List α} (hn : ks.Nodup) (hs : ∀ x ∈ ks, x ∈ L) (hl : L.length ≤ ks.length) : ∀ x ∈ L, x ∈ ks := fun x hx => by
  by_cases h : x ∈ ks
  · exact h
  · have h1 := nodup_le (x :: ks) L (List.nodup_cons.2 ⟨h, hn⟩) (by simpa using ⟨hx, hs⟩)
    simp at h1; omega
theorem moreN_ne {toks : List Tok} {e : PosT} {l c : Bool} : ∀ {f k : Nat} {acc r : List Int} {k2 : Nat}, k ≤ toks.length → acc ≠ [] → moreN toks e l c f k acc = .ok (r, k2) → r ≠ [] ∧ k ≤ k2 ∧ k2 ≤ toks.length
  | 0, k, acc, r, k2, hk, ha, h => by cases h; exact ⟨ha, Nat.le_refl _, hk⟩
  | f + 1, k, acc, r, k2, hk, ha, h => by
    by_cases hc : (c && isS toks k 4 commaB) = true
    · rw [moreN_step hc] at h
      cases hN : numberP toks e l (k + 1) with
      | error q => rw [hN] at h; cases h
      | ok q =>
        obtain ⟨v, k1⟩ := q
        rw [hN] at h
        obtain ⟨h1, h2⟩ := numberP_at hN
        obtain ⟨a, b, c⟩ := moreN_ne (by omega) (by simp) h
        exact ⟨a, by omega, c⟩
    · rw [moreN_stop hc] at h; cases h; exact ⟨ha, Nat.le_refl _, hk⟩
theorem oneAttr_ok {toks : List Tok} {e : PosT} {names : List ByteArray} {got : Got} {k k3 : Nat} {p : ByteArray × List Int} (h : oneAttr toks e names got k = .ok (p, k3)) : p.1 ∈ names ∧ p.1 ∉ got.map (·.1) ∧ p.2 ≠ [] ∧ k < k3 ∧ k3 ≤ toks.length := by
  unfold oneAttr at h
  cases hN : nextP toks e 1 k with
  | error q => rw [hN] at h; cases h
  | ok q =>
    obtain ⟨t, j⟩ := q
    rw [hN] at h
    dsimp only at h
    by_cases h1 : memB t.Text names = false
    · rw [if_pos h1] at h; cases h
    rw [if_neg h1] at h
    by_cases h2 : memB t.Text (got.map (·.1)) = true
    · rw [if_pos h2] at h; cases h
    rw [if_neg h2] at h
    cases hM : numberP toks e (limB t.Text) (k + 1) with
    | error q => rw [hM] at h; cases h
    | ok q =>
      obtain ⟨v, k1⟩ := q
      obtain ⟨hk1, hk1n⟩ := numberP_at hM
      rw [hM] at h
      dsimp only at h
      cases hL : moreN toks e (limB t.Text) (decide (t.Text = coresB)) (toks.length + 1) k1 [v] with
      | error q => rw [hL] at h; cases h
      | ok q =>
        obtain ⟨l, k2⟩ := q
        rw [hL] at h
        dsimp only at h
        obtain ⟨a, b, c⟩ := moreN_ne (by omega) (by simp) hL
        cases hE : expectP toks e 4 semiB k2 with
        | error q => rw [hE] at h; cases h
        | ok q =>
          obtain ⟨⟨⟩, k4⟩ := q
          obtain ⟨hk4, hk4n⟩ := expectP_at hE
          rw [hE] at h
          cases h
          have memIff : ∀ (s : ByteArray) (xs : List ByteArray), memB s xs = true ↔ s ∈ xs := fun s xs => by
            unfold memB; rw [List.any_eq_true]
            exact ⟨fun ⟨x, hx, he⟩ => by rw [of_decide_eq_true he]; exact hx, fun h => ⟨s, h, decide_eq_true rfl⟩⟩
          refine ⟨?_, fun hm => h2 ((memIff _ _).2 hm), a, by omega, by omega⟩
          exact (memIff _ _).1 (by simpa using h1)
theorem attrN_ok {toks : List Tok} {e : PosT} {names : List ByteArray} : ∀ {f k k2 : Nat} {got r : Got}, k ≤ toks.length → toks.length < f + k → (got.map (·.1)).Nodup → (∀ p ∈ got, p.1 ∈ names ∧ p.2 ≠ []) → attrN toks e names f k got = .ok (r, k2) → (r.map (·.1)).Nodup ∧ (∀ p ∈ r, p.1 ∈ names ∧ p.2 ≠ []) ∧ k ≤ k2 ∧ k2 < toks.length
  | 0, k, k2, got, r, hk, hf, hn, hp, h => by omega
  | f + 1, k, k2, got, r, hk, hf, hn, hp, h => by
    unfold attrN at h
    by_cases hc : isS toks k 4 closeB = true
    · rw [if_pos hc] at h; cases h; exact ⟨hn, hp, Nat.le_refl _, isS_lt hc⟩
    · rw [if_neg hc] at h
      cases hO : oneAttr toks e names got k with
      | error q => rw [hO] at h; cases h
      | ok q =>
        obtain ⟨p, k3⟩ := q
        rw [hO] at h
        obtain ⟨h1, h2, h3, h4, h5⟩ := oneAttr_ok hO
        obtain ⟨a, b, c, d⟩ := attrN_ok (f := f) (k := k3) (got := got ++ [p]) h5 (by omega) (by
          rw [List.map_append, List.nodup_append]
          refine ⟨hn, by simp, fun x hx y hy => ?_⟩
          simp at hy; subst hy
          rintro rfl; exact h2 hx) (fun x hx => by
          rcases List.mem_append.1 hx with hx | hx
          · exact hp x hx
          · cases List.mem_singleton.1 hx; exact ⟨h1, h3⟩) h
        exact ⟨a, b, by omega, d⟩
/-- Where the attributes are read, each name has a list that is not empty. -/
theorem attrP_ok {toks : List Tok} {e : PosT} {names : List ByteArray} {k k2 : Nat} {r : Got} (h : attrP toks e names k = .ok (r, k2)) : (∀ s ∈ names, ∃ v t, aGet r s = some (v :: t)) ∧ k < k2 ∧ k2 ≤ toks.length := by
  unfold attrP at h
  cases hE : expectP toks e 4 openB k with
  | error q => rw [hE] at h; cases h
  | ok q =>
    obtain ⟨⟨⟩, k1⟩ := q
    obtain ⟨h1, h2⟩ := expectP_at hE
    rw [hE] at h
    dsimp only at h
    cases hA : attrN toks e names (toks.length + 1) k1 [] with
    | error q => rw [hA] at h; cases h
    | ok q =>
      obtain ⟨got, k3⟩ := q
      rw [hA] at h
      dsimp only at h
      obtain ⟨a, b, c, d⟩ := attrN_ok (by omega) (by omega) (by simp) (by simp) hA
      by_cases hl : got.length < names.length
      · rw [if_pos hl] at h; cases h
      rw [if_neg hl] at h
      cases h
      refine ⟨fun s hs => ?_, by omega, by omega⟩
      have hm := nodup_all (ks := r.map (·.1)) (L := names) a (fun x hx => by
        obtain ⟨p, hp, rfl⟩ := List.mem_map.1 hx
        exact (b p hp).1) (by simp; omega) s hs
      obtain ⟨v, hv⟩ := aGet_some_iff.2 hm
      have := (b _ (aGet_mem hv)).2
      cases v with
      | nil => exact absurd rfl this
      | cons x t => exact ⟨x, t, hv⟩
theorem aGet_map {β γ : Type} (f : β → γ) (l : List (ByteArray × β)) (s : ByteArray) : aGet (l.map fun p => (p.1, f p.2)) s = (aGet l s).map f := by
  unfold aGet aIx
  rw [List.findIdx?_map]
  rw [show ((fun p : ByteArray × γ => decide (p.1 = s)) ∘ fun p : ByteArray × β => (p.1, f p.2)) = fun p : ByteArray × β => decide (p.1 = s) from rfl]
  cases hf : l.findIdx? (fun p => decide (p.1 = s)) with
  | none => rfl
  | some i => simp; rfl
theorem moreN_len {toks : List Tok} {e : PosT} {l c : Bool} : ∀ {f k : Nat} {acc r : List Int} {k2 : Nat}, moreN toks e l c f k acc = .ok (r, k2) → r.length + k ≤ acc.length + k2
  | 0, k, acc, r, k2, h => by cases h; exact Nat.le_refl _
  | f + 1, k, acc, r, k2, h => by
    by_cases hc : (c && isS toks k 4 commaB) = true
    · rw [moreN_step hc] at h
      cases hN : numberP toks e l (k + 1) with
      | error q => rw [hN] at h; cases h
      | ok q =>
        obtain ⟨v, k1⟩ := q
        rw [hN] at h
        obtain ⟨h1, h2⟩ := numberP_at hN
        have := moreN_len h
        simp at this; omega
    · rw [moreN_stop hc] at h; cases h; exact Nat.le_refl _
theorem oneAttr_len {toks : List Tok} {e : PosT} {names : List ByteArray} {got : Got} {k k3 : Nat} {p : ByteArray × List Int} (h : oneAttr toks e names got k = .ok (p, k3)) : p.2.length ≤ toks.length := by
  unfold oneAttr at h
  cases hN : nextP toks e 1 k with
  | error q => rw [hN] at h; cases h
  | ok q =>
    obtain ⟨t, j⟩ := q
    rw [hN] at h
    dsimp only at h
    by_cases h1 : memB t.Text names = false
    · rw [if_pos h1] at h; cases h
    rw [if_neg h1] at h
    by_cases h2 : memB t.Text (got.map (·.1)) = true
    · rw [if_pos h2] at h; cases h
    rw [if_neg h2] at h
    cases hM : numberP toks e (limB t.Text) (k + 1) with
    | error q => rw [hM] at h; cases h
    | ok q =>
      obtain ⟨v, k1⟩ := q
      obtain ⟨hk1, hk1n⟩ := numberP_at hM
      rw [hM] at h
      dsimp only at h
      cases hL : moreN toks e (limB t.Text) (decide (t.Text = coresB)) (toks.length + 1) k1 [v] with
      | error q => rw [hL] at h; cases h
      | ok q =>
        obtain ⟨l, k2⟩ := q
        rw [hL] at h
        dsimp only at h
        have a := moreN_len hL
        cases hE : expectP toks e 4 semiB k2 with
        | error q => rw [hE] at h; cases h
        | ok q =>
          obtain ⟨⟨⟩, k4⟩ := q
          obtain ⟨hk4, hk4n⟩ := expectP_at hE
          rw [hE] at h
          cases h
          simp at a; dsimp only; omega
theorem attrN_len {toks : List Tok} {e : PosT} {names : List ByteArray} : ∀ {f k k2 : Nat} {got r : Got}, (∀ p ∈ got, p.2.length ≤ toks.length) → attrN toks e names f k got = .ok (r, k2) → ∀ p ∈ r, p.2.length ≤ toks.length
  | 0, k, k2, got, r, hp, h => by cases h; exact hp
  | f + 1, k, k2, got, r, hp, h => by
    unfold attrN at h
    by_cases hc : isS toks k 4 closeB = true
    · rw [if_pos hc] at h; cases h; exact hp
    · rw [if_neg hc] at h
      cases hO : oneAttr toks e names got k with
      | error q => rw [hO] at h; cases h
      | ok q =>
        obtain ⟨p, k3⟩ := q
        rw [hO] at h
        exact attrN_len (fun x hx => by
          rcases List.mem_append.1 hx with hx | hx
          · exact hp x hx
          · cases List.mem_singleton.1 hx; exact oneAttr_len hO) h
theorem attrP_len {toks : List Tok} {e : PosT} {names : List ByteArray} {k k2 : Nat} {r : Got} (h : attrP toks e names k = .ok (r, k2)) : ∀ p ∈ r, p.2.length ≤ toks.length := by
  unfold attrP at h
  cases hE : expectP toks e 4 openB k with
  | error q => rw [hE] at h; cases h
  | ok q =>
    obtain ⟨⟨⟩, k1⟩ := q
    rw [hE] at h
    dsimp only at h
    cases hA : attrN toks e names (toks.length + 1) k1 [] with
    | error q => rw [hA] at h; cases h
    | ok q =>
      obtain ⟨got, k3⟩ := q
      rw [hA] at h
      dsimp only at h
      by_cases hl : got.length < names.length
      · rw [if_pos hl] at h; cases h
      rw [if_neg hl] at h
      cases h
      exact attrN_len (by simp) hA
end Go.Proofs.YtimbobmmijgkiaaGreatDoor
end
/- A description is read from its tokens' kinds, texts and values; their positions matter to an error's position alone (no program in sight). -/
section
open Go Mk
namespace Go.Proofs.YtimbobmmijgkiaaGreatDoor
set_option maxHeartbeats 1000000
attribute [local irreducible] Calls

/-- Two readings end alike, but for an error's position. -/
def Sm {α : Type} : PR α → PR α → Prop
  | .ok x, .ok y => x = y
  | .error x, .error y => x.2 = y.2
  | _, _ => False
theorem Sm.rfl' {α : Type} (P : PR α) : Sm P P := by cases P <;> exact rfl
theorem Sm.err {α : Type} {p q : PosT} {er : Int} : Sm (.error (p, er) : PR α) (.error (q, er)) := rfl
/-- How two readings that end alike can look. -/
theorem Sm.cases {α : Type} {P Q : PR α} (h : Sm P Q) : (∃ p q er, P = .error (p, er) ∧ Q = .error (q, er)) ∨ ∃ x k, P = .ok (x, k) ∧ Q = .ok (x, k) := by
  cases P with
  | error a =>
    cases Q with
    | error b =>
      obtain ⟨p, er⟩ := a
      obtain ⟨q, er'⟩ := b
      have h : er = er' := h
      subst h
      exact .inl ⟨p, q, er, rfl, rfl⟩
    | ok b => exact h.elim
  | ok a =>
    cases Q with
    | error b => exact h.elim
    | ok b =>
      obtain ⟨x, k⟩ := a
      have h : (x, k) = b := h
      subst h
      exact .inr ⟨x, k, rfl, rfl⟩
section
variable {a b : List Tok} {e e' : PosT}
theorem tri_at (h : a.map tri = b.map tri) (k : Nat) : (a[k]?).map tri = (b[k]?).map tri := by
  rw [← List.getElem?_map, ← List.getElem?_map, h]
theorem tri_len (h : a.map tri = b.map tri) : a.length = b.length := by
  have := congrArg List.length h
  simpa using this
theorem isS_sm (h : a.map tri = b.map tri) (k : Nat) (kind : Int) (text : ByteArray) : isS a k kind text = isS b k kind text := by
  have h1 := tri_at h k
  unfold isS
  cases ha : a[k]? with
  | none =>
    cases hb : b[k]? with
    | none => rfl
    | some y => rw [ha, hb] at h1; cases h1
  | some x =>
    cases hb : b[k]? with
    | none => rw [ha, hb] at h1; cases h1
    | some y =>
      rw [ha, hb] at h1
      have h2 : (x.Kind, x.Text, x.Value) = (y.Kind, y.Text, y.Value) := Option.some.inj h1
      have h3 := Prod.mk.inj h2
      have h4 := Prod.mk.inj h3.2
      dsimp only
      rw [h3.1, h4.1]
theorem next_sm (h : a.map tri = b.map tri) (kind : Int) (k : Nat) : (∃ p q er, nextP a e kind k = .error (p, er) ∧ nextP b e' kind k = .error (q, er)) ∨ ∃ x y, nextP a e kind k = .ok (x, k) ∧ nextP b e' kind k = .ok (y, k) ∧ x.Text = y.Text ∧ x.Value = y.Value := by
  have h1 := tri_at h k
  unfold nextP
  cases ha : a[k]? with
  | none =>
    cases hb : b[k]? with
    | none => exact .inl ⟨_, _, _, rfl, rfl⟩
    | some y => rw [ha, hb] at h1; cases h1
  | some x =>
    cases hb : b[k]? with
    | none => rw [ha, hb] at h1; cases h1
    | some y =>
      rw [ha, hb] at h1
      have h2 : (x.Kind, x.Text, x.Value) = (y.Kind, y.Text, y.Value) := Option.some.inj h1
      have h3 := Prod.mk.inj h2
      have h4 := Prod.mk.inj h3.2
      dsimp only
      rw [h3.1]
      by_cases hk : y.Kind = kind
      · rw [if_pos hk, if_pos hk]; exact .inr ⟨x, y, rfl, rfl, h4.1, h4.2⟩
      · rw [if_neg hk, if_neg hk]; exact .inl ⟨_, _, _, rfl, rfl⟩
theorem expect_sm (h : a.map tri = b.map tri) (kind : Int) (text : ByteArray) (k : Nat) : Sm (expectP a e kind text k) (expectP b e' kind text k) := by
  unfold expectP
  rw [isS_sm h]
  split
  · exact rfl
  · exact rfl
theorem name_sm (h : a.map tri = b.map tri) (kind : Int) (k : Nat) : Sm (nameP a e kind k) (nameP b e' kind k) := by
  unfold nameP
  rcases next_sm (e := e) (e' := e') h kind k with ⟨p, q, er, h1, h2⟩ | ⟨x, y, h1, h2, h3, -⟩
  · rw [h1, h2]; exact rfl
  · rw [h1, h2]
    dsimp only
    rw [h3]
    split
    · exact rfl
    · exact rfl
theorem number_sm (h : a.map tri = b.map tri) (l : Bool) (k : Nat) : Sm (numberP a e l k) (numberP b e' l k) := by
  unfold numberP
  rcases next_sm (e := e) (e' := e') h 2 k with ⟨p, q, er, h1, h2⟩ | ⟨x, y, h1, h2, -, h3⟩
  · rw [h1, h2]; exact rfl
  · rw [h1, h2]
    dsimp only
    rw [h3]
    split
    · exact rfl
    · exact rfl
theorem more_sm (h : a.map tri = b.map tri) (l c : Bool) : ∀ (f k : Nat) (acc : List Int), Sm (moreN a e l c f k acc) (moreN b e' l c f k acc)
  | 0, k, acc => rfl
  | f + 1, k, acc => by
    unfold moreN
    rw [isS_sm h]
    split
    · rcases (number_sm (e := e) (e' := e') h l (k + 1)).cases with ⟨p, q, er, h1, h2⟩ | ⟨x, k1, h1, h2⟩
      · rw [h1, h2]; exact rfl
      · rw [h1, h2]; exact more_sm h l c f k1 _
    · exact rfl
theorem one_sm (h : a.map tri = b.map tri) (names : List ByteArray) (got : List (ByteArray × List Int)) (k : Nat) : Sm (oneAttr a e names got k) (oneAttr b e' names got k) := by
  unfold oneAttr
  rcases next_sm (e := e) (e' := e') h 1 k with ⟨p, q, er, h1, h2⟩ | ⟨x, y, h1, h2, h3, -⟩
  · rw [h1, h2]; exact rfl
  · rw [h1, h2]
    dsimp only
    rw [h3, tri_len h]
    split
    · exact rfl
    · split
      · exact rfl
      · rcases (number_sm (e := e) (e' := e') h (limB y.Text) (k + 1)).cases with ⟨p, q, er, h1, h2⟩ | ⟨v, k1, h1, h2⟩
        · rw [h1, h2]; exact rfl
        · rw [h1, h2]
          dsimp only
          rcases (more_sm (e := e) (e' := e') h (limB y.Text) (decide (y.Text = coresB)) (b.length + 1) k1 [v]).cases with ⟨p, q, er, h1, h2⟩ | ⟨l, k2, h1, h2⟩
          · rw [h1, h2]; exact rfl
          · rw [h1, h2]
            dsimp only
            rcases (expect_sm (e := e) (e' := e') h 4 semiB k2).cases with ⟨p, q, er, h1, h2⟩ | ⟨u, k3, h1, h2⟩
            · rw [h1, h2]; exact rfl
            · rw [h1, h2]; exact rfl
theorem attrN_sm (h : a.map tri = b.map tri) (names : List ByteArray) : ∀ (f k : Nat) (got : List (ByteArray × List Int)), Sm (attrN a e names f k got) (attrN b e' names f k got)
  | 0, k, got => rfl
  | f + 1, k, got => by
    unfold attrN
    rw [isS_sm h]
    split
    · exact rfl
    · rcases (one_sm (e := e) (e' := e') h names got k).cases with ⟨p, q, er, h1, h2⟩ | ⟨x, k1, h1, h2⟩
      · rw [h1, h2]; exact rfl
      · rw [h1, h2]; exact attrN_sm h names f k1 _
theorem attr_sm (h : a.map tri = b.map tri) (names : List ByteArray) (k : Nat) : Sm (attrP a e names k) (attrP b e' names k) := by
  unfold attrP
  rcases (expect_sm (e := e) (e' := e') h 4 openB k).cases with ⟨p, q, er, h1, h2⟩ | ⟨u, k1, h1, h2⟩
  · rw [h1, h2]; exact rfl
  · rw [h1, h2, tri_len h]
    dsimp only
    rcases (attrN_sm (e := e) (e' := e') h names (b.length + 1) k1 []).cases with ⟨p, q, er, h1, h2⟩ | ⟨got, k2, h1, h2⟩
    · rw [h1, h2]; exact rfl
    · rw [h1, h2]
      dsimp only
      split
      · exact rfl
      · exact rfl
theorem core_sm (h : a.map tri = b.map tri) (k : Nat) : Sm (coreP a e k) (coreP b e' k) := by
  unfold coreP
  rcases (number_sm (e := e) (e' := e') h true k).cases with ⟨p, q, er, h1, h2⟩ | ⟨x, k1, h1, h2⟩
  · rw [h1, h2]; exact rfl
  · rw [h1, h2]
    dsimp only
    rcases (attr_sm (e := e) (e' := e') h [widthB, nodeB, speedB] k1).cases with ⟨p, q, er, h1, h2⟩ | ⟨got, k2, h1, h2⟩
    · rw [h1, h2]; exact rfl
    · rw [h1, h2]; exact rfl
theorem cache_sm (h : a.map tri = b.map tri) (k : Nat) : Sm (cacheP a e k) (cacheP b e' k) := by
  unfold cacheP
  rcases (name_sm (e := e) (e' := e') h 1 k).cases with ⟨p, q, er, h1, h2⟩ | ⟨x, k1, h1, h2⟩
  · rw [h1, h2]; exact rfl
  · rw [h1, h2]
    dsimp only
    rcases (attr_sm (e := e) (e' := e') h [levelB, lineB, sizeB, coresB] k1).cases with ⟨p, q, er, h1, h2⟩ | ⟨got, k2, h1, h2⟩
    · rw [h1, h2]; exact rfl
    · rw [h1, h2]; exact rfl
theorem link_sm (h : a.map tri = b.map tri) (k : Nat) : Sm (linkP a e k) (linkP b e' k) := by
  unfold linkP
  rcases (number_sm (e := e) (e' := e') h true k).cases with ⟨p, q, er, h1, h2⟩ | ⟨x, k1, h1, h2⟩
  · rw [h1, h2]; exact rfl
  · rw [h1, h2]
    dsimp only
    rcases (number_sm (e := e) (e' := e') h true k1).cases with ⟨p, q, er, h1, h2⟩ | ⟨y, k2, h1, h2⟩
    · rw [h1, h2]; exact rfl
    · rw [h1, h2]
      dsimp only
      rcases (attr_sm (e := e) (e' := e') h [latencyB] k2).cases with ⟨p, q, er, h1, h2⟩ | ⟨got, k3, h1, h2⟩
      · rw [h1, h2]; exact rfl
      · rw [h1, h2]; exact rfl
theorem mem_sm (h : a.map tri = b.map tri) (k : Nat) : Sm (memP a e k) (memP b e' k) := by
  unfold memP
  rcases (name_sm (e := e) (e' := e') h 1 k).cases with ⟨p, q, er, h1, h2⟩ | ⟨x, k1, h1, h2⟩
  · rw [h1, h2]; exact rfl
  · rw [h1, h2]
    dsimp only
    rcases (attr_sm (e := e) (e' := e') h [baseB, sizeB, nodeB, latencyB] k1).cases with ⟨p, q, er, h1, h2⟩ | ⟨got, k2, h1, h2⟩
    · rw [h1, h2]; exact rfl
    · rw [h1, h2]; exact rfl
theorem dev_sm (h : a.map tri = b.map tri) (k : Nat) : Sm (devP a e k) (devP b e' k) := by
  unfold devP
  rcases (name_sm (e := e) (e' := e') h 1 k).cases with ⟨p, q, er, h1, h2⟩ | ⟨x, k1, h1, h2⟩
  · rw [h1, h2]; exact rfl
  · rw [h1, h2]
    dsimp only
    rcases (attr_sm (e := e) (e' := e') h [nodeB, irqB, baseB, sizeB] k1).cases with ⟨p, q, er, h1, h2⟩ | ⟨got, k2, h1, h2⟩
    · rw [h1, h2]; exact rfl
    · rw [h1, h2]; exact rfl
theorem Sm.map {α β : Type} {f : α → β} {P Q : PR α} (h : Sm P Q) : Sm (PR.map f P) (PR.map f Q) := by
  rcases h.cases with ⟨p, q, er, h1, h2⟩ | ⟨x, k, h1, h2⟩
  · rw [h1, h2]; exact rfl
  · rw [h1, h2]; exact rfl
theorem item_sm (h : a.map tri = b.map tri) (k : Nat) (H : HwT) : Sm (itemP a e k H) (itemP b e' k H) := by
  unfold itemP
  rcases next_sm (e := e) (e' := e') h 1 k with ⟨p, q, er, h1, h2⟩ | ⟨x, y, h1, h2, h3, -⟩
  · rw [h1, h2]; exact rfl
  · rw [h1, h2]
    dsimp only
    rw [h3]
    split
    · exact (core_sm h _).map
    · split
      · exact (cache_sm h _).map
      · split
        · exact (link_sm h _).map
        · split
          · exact (mem_sm h _).map
          · split
            · exact (dev_sm h _).map
            · exact rfl
theorem items_sm (h : a.map tri = b.map tri) : ∀ (f k : Nat) (H : HwT), Sm (itemsP a e f k H) (itemsP b e' f k H)
  | 0, k, H => rfl
  | f + 1, k, H => by
    unfold itemsP
    rw [isS_sm h]
    split
    · exact rfl
    · rcases (item_sm (e := e) (e' := e') h k H).cases with ⟨p, q, er, h1, h2⟩ | ⟨x, k1, h1, h2⟩
      · rw [h1, h2]; exact rfl
      · rw [h1, h2]; exact items_sm h f k1 _
theorem hardware_sm (h : a.map tri = b.map tri) : Sm (hardwareP a e) (hardwareP b e') := by
  unfold hardwareP
  rcases (expect_sm (e := e) (e' := e') h 1 machineB 0).cases with ⟨p, q, er, h1, h2⟩ | ⟨u, k1, h1, h2⟩
  · rw [h1, h2]; exact rfl
  · rw [h1, h2]
    dsimp only
    rcases (name_sm (e := e) (e' := e') h 3 k1).cases with ⟨p, q, er, h1, h2⟩ | ⟨s, k2, h1, h2⟩
    · rw [h1, h2]; exact rfl
    · rw [h1, h2]
      dsimp only
      rcases (expect_sm (e := e) (e' := e') h 4 openB k2).cases with ⟨p, q, er, h1, h2⟩ | ⟨u, k3, h1, h2⟩
      · rw [h1, h2]; exact rfl
      · rw [h1, h2, tri_len h]
        dsimp only
        rcases (items_sm (e := e) (e' := e') h (b.length + 1) k3 ⟨s, [], [], [], [], []⟩).cases with ⟨p, q, er, h1, h2⟩ | ⟨H, k4, h1, h2⟩
        · rw [h1, h2]; exact rfl
        · rw [h1, h2]
          dsimp only
          split
          · exact rfl
          · exact rfl
end
end Go.Proofs.YtimbobmmijgkiaaGreatDoor
end
/- The program's parser: items, walked. -/
section
open Go Mk
namespace Go.Proofs.YtimbobmmijgkiaaGreatDoor
set_option maxHeartbeats 4000000
attribute [local irreducible] Calls nextP numberP expectP isS posOf moreN memB nameP attrP

theorem one_any {Γ : Gho} {S : List Res} {w : World} {bm j : Nat} {ms : List (ByteArray × NumH)} {s : ByteArray} {h : NumH} {v : Int} {t : List Int} (hg : aGet ms s = some h) (hl : h.L = v :: t) (hok : NOk Γ h) (hw : Wd Γ S w) (hi : S[j]? = some (Res.ms numV bm ms)) :
    Calls Tryz.prog 153 #[.map (some bm), .string s] w fun e w' => e = .returned (.int .i64 (IntKind.i64.wrap v)) ∧ Wd Γ S w' := by
  obtain ⟨A, N, C, L⟩ := h
  dsimp only at hl
  subst hl
  have hr : RepS Γ (.slice A N C) 1 (numRows (v :: t)) := hok
  obtain ⟨a, n, c, h1, h2, h3, h4⟩ := hr.shape
  cases h1
  have hN : N = t.length + 1 := by simpa [numRows] using h2
  refine calls_of_W Tryz.func153 rfl rfl ?_
  repeat (first | refine byW ?_ | (refine byV ?_; intro w hw))
  refine lY (v := numV ((aGet ms s).getD default)) ?_ (hy := y_lookupS1 hw rfl rfl hi rfl)
  rw [hg]
  refine lY ?_ (hy := y_idxI (i := 0) hw hr rfl rfl (by omega) (by omega))
  refine lY (v := .int .u64 v) ?_ (hy := y_loadE1 (k := 0) rfl (hr.rd hw) rfl)
  repeat (first | refine byW ?_ | (refine byV ?_; intro w hw))
  exact ⟨_, rfl, rfl, hw⟩

theorem mOne {n : Nat} {ops : List Oper} {Γ : Gho} {K : List Res} {wr tc stab : List (List Nat)} {Q : Fr → World → Prop} {i : Nat} {rest : List Oper} {ρ : Fr} {M : Nat → Fr → List Res} {t : Nat} {d : Option Tmp} {ty : TypeId} {pos : String} {es : Array Edge} {x y : Operand} {tys : Array TypeId} {bm : Nat} {ms : List (ByteArray × NumH)} {s : ByteArray} {h : NumH} {v : Int} {tl : List Int} (j : Nat) (hg : aGet ms s = some h) (hl : h.L = v :: tl) (hok : NOk Γ h)
    (k : MSw (mV Tryz.prog n ops Γ K wr tc stab) Q (i + 1) rest ⟨putO ρ d (.int .i64 (IntKind.i64.wrap v)), M⟩) (hK : ∀ X, (K ++ X)[j]? = some (Res.ms numV bm ms) := by intro X; exact rfl)
    (ht : ∀ g, ovr stab.flatten g ρ t = .func (.func 153) #[] #[] := by intro g; exact rfl) (hx : ∀ g, ev (ovr stab.flatten g ρ) x = .map (some bm) := by intro g; exact rfl) (hy : ∀ g, ev (ovr stab.flatten g ρ) y = .string s := by intro g; exact rfl)
    (hw0 : wr.getD i [] = [] := by exact rfl) (ho : outOf tc stab i d = true := by exact rfl) :
    MSw (mV Tryz.prog n ops Γ K wr tc stab) Q i (⟨d, .call { callee := .value (.tmp t), args := #[x, y], argTypes := tys }, ty, pos, es, none⟩ :: rest) ⟨ρ, M⟩ :=
  mC (v := .int .i64 (IntKind.i64.wrap v)) (fun Y w g hw => s_callv (vs := #[.map (some bm), .string s]) (ht g) (by simp [hx g, hy g]) ((one_any hg hl hok hw (hK _)).mono fun e w' ⟨h1, h2⟩ => ⟨_, h1, rfl, h2⟩)) hw0 rfl ho k

def Small (H : HwT) (k : Nat) : Prop := H.Cores.length ≤ k ∧ H.Caches.length ≤ k ∧ H.Links.length ≤ k ∧ H.Mems.length ≤ k ∧ H.Devs.length ≤ k
theorem COk.mono {Γ Γ' : Gho} {c : CacheH} (h : COk Γ c) (hle : Γ.le Γ') : COk Γ' c := RepS.mono h hle
theorem got_of {toks : List Tok} {e : PosT} {names : List ByteArray} {k k2 : Nat} {got : Got} {ms : List (ByteArray × NumH)} {Γ : Gho} (h : attrP toks e names k = .ok (got, k2)) (hm : ms.map (fun p => (p.1, p.2.L)) = got) (hok : ∀ p ∈ ms, NOk Γ p.2) (s : ByteArray) (hs : s ∈ names) : ∃ (h : NumH) (v : Int) (tl : List Int), aGet ms s = some h ∧ h.L = v :: tl ∧ NOk Γ h ∧ numOf got s = v ∧ intOf got s = IntKind.i64.wrap v ∧ aGet got s = some (v :: tl) := by
  obtain ⟨v, t, hg⟩ := (attrP_ok h).1 s hs
  rw [← hm, aGet_map] at hg
  cases hh : aGet ms s with
  | none => rw [hh] at hg; cases hg
  | some x =>
    rw [hh] at hg
    have hx : x.L = v :: t := by simpa using hg
    have h2 : aGet got s = some (v :: t) := by rw [← hm, aGet_map, hh]; simp [hx]
    have h3 : numOf got s = v := by unfold numOf; rw [h2]; rfl
    exact ⟨x, v, t, rfl, hx, hok _ (aGet_mem hh), h3, by unfold intOf; rw [h3], h2⟩
theorem got_of2 {toks : List Tok} {e : PosT} {names : List ByteArray} {k k2 : Nat} {got : Got} {ms : List (ByteArray × NumH)} {Γ : Gho} (h : attrP toks e names k = .ok (got, k2)) (hm : ms.map (fun p => (p.1, p.2.L)) = got) (hok : ∀ p ∈ ms, NOk Γ p.2) (s : ByteArray) (hs : s ∈ names) : ∃ (A : Option Addr) (N C : Nat) (v : Int) (tl : List Int), aGet ms s = some ⟨A, N, C, v :: tl⟩ ∧ RepS Γ (.slice A N C) 1 (numRows (v :: tl)) ∧ N = tl.length + 1 ∧ numOf got s = v ∧ aGet got s = some (v :: tl) := by
  obtain ⟨⟨A, N, C, L⟩, v, tl, h1, h2, h3, h4, h5, h6⟩ := got_of h hm hok s hs
  dsimp only at h2
  subst h2
  have hr : RepS Γ (.slice A N C) 1 (numRows (v :: tl)) := h3
  obtain ⟨a, n, c, e1, e2, -, -⟩ := hr.shape
  cases e1
  exact ⟨A, N, C, v, tl, h1, hr, by simpa [numRows] using e2, h4, h6⟩
theorem itemP_at {toks : List Tok} {e : PosT} {k : Nat} {s : ByteArray} {k1 : Nat} {kind : Int} (h : nameP toks e kind k = .ok (s, k1)) : k1 = k + 1 ∧ k < toks.length := by
  unfold nameP at h
  cases hN : nextP toks e kind k with
  | error q => rw [hN] at h; cases h
  | ok q =>
    obtain ⟨x, j⟩ := q
    obtain ⟨rfl, h1, -⟩ := nextP_at hN
    rw [hN] at h
    have hlt := (List.getElem?_eq_some_iff.1 h1).1
    dsimp only at h
    by_cases hc : 24 < x.Text.size
    · rw [if_pos hc] at h; cases h
    · rw [if_neg hc] at h; cases h; exact ⟨rfl, hlt⟩
section
variable {Γ : Gho} {S : List Res} {w : World} {bp hb : Nat} {a : Option Addr} {n c at' : Nat} {e : PosT} {toks : List Tok} {H : HwT}
theorem item_any (ht : RepS Γ (.slice a n c) 5 (toks.map enc)) (hbig : n ≤ 1000000) (hat : at' ≤ n) (hsm : Small H at') (hw : HwIn Γ [parB bp a n c at' e] hb H S w) :
    Calls Tryz.prog 105 #[.pointer (some ⟨bp, 0, none⟩), .pointer (some ⟨hb, 0, none⟩)] w fun r w' => ∃ Γ', Γ.le Γ' ∧ (match itemP toks e at' H with
      | .ok (H', k) => r = .returned (.tuple #[]) ∧ HwIn Γ' [parB bp a n c k e] hb H' S w'
      | .error (p, er) => r = .panicked [failE p er] ∧ Wd Γ' S w') := by
  have hn : n = toks.length ∧ n ≤ c ∧ c ≤ 9223372036854775807 := by obtain ⟨_, _, _, h1, h2, h3⟩ := ht.shape; cases h1; exact ⟨by simpa using h2, h3⟩
  obtain ⟨hn, hnc, hc⟩ := hn
  obtain ⟨v1, v2, v3, v4, v5, cs, hcs, hok, hw⟩ := hw
  obtain ⟨s1, s2, s3, s4, s5⟩ := hsm
  have hw : Wd Γ (parB bp a n c at' e :: .blk hb _ :: .own v1 _ _ _ :: .own v2 _ _ _ :: .own v3 _ _ _ :: .own v4 _ _ _ :: .own v5 _ _ _ :: S) w := hw
  obtain ⟨a1, n1, c1, rfl, hn1, -, -⟩ := hw.own_shape (i := 2) rfl
  obtain ⟨a2, n2, c2, rfl, hn2, -, -⟩ := hw.own_shape (i := 3) rfl
  obtain ⟨a3, n3, c3, rfl, hn3, -, -⟩ := hw.own_shape (i := 4) rfl
  obtain ⟨a4, n4, c4, rfl, hn4, -, -⟩ := hw.own_shape (i := 5) rfl
  obtain ⟨a5, n5, c5, rfl, hn5, -, -⟩ := hw.own_shape (i := 6) rfl
  simp only [List.length_map] at hn1 hn2 hn3 hn4 hn5
  have hcl : cs.length = H.Caches.length := by rw [← hcs]; simp
  refine calls_of_W Tryz.func105 rfl rfl ?_
  repeat (first | refine byW ?_ | (refine byV ?_; intro w hw))
  refine L_callE ?_
  refine (next_any 1 ht hat hw).mono ?_
  rintro r w hr
  unfold itemP
  cases hN : nextP toks e 1 at' with
  | error q =>
    obtain ⟨p, er⟩ := q
    rw [hN] at hr
    obtain ⟨rfl, k', hw⟩ := hr
    dsimp only
    exact ⟨Γ, Gho.le.refl _, rfl, hw.ds [0, 0, 0, 0, 0, 0, 0]⟩
  | ok q =>
    obtain ⟨t, j⟩ := q
    obtain ⟨hj, ht1, -⟩ := nextP_at hN
    subst j
    have hkn : at' < n := by have := (List.getElem?_eq_some_iff.1 ht1).1; omega
    rw [hN] at hr
    obtain ⟨rfl, hw⟩ := hr
    dsimp only
    show L _ _ _ _ _ _ _
    refine lY (v := .string t.Text) ?_ (hy := y_fldS Tryz.underlying53 rfl rfl (TS.h (P := Tryz.prog) (T := 9)) rfl)
    repeat (first | refine byW ?_ | (refine byV ?_; intro w hw))
    refine W_cond rfl (fun h => ?_) (fun h => ?_)
    · have h : t.Text = coreB := of_decide_eq_true h
      rw [if_pos h]
      unfold parB at hw
      repeat (first | refine byW ?_ | (refine byV ?_; intro w hw))
      refine lStore ?_
      intro w hw
      have hw : Wd Γ (parB bp a n c (at' + 1) e :: .blk hb _ :: .own (.slice a1 n1 c1) _ _ _ :: .own (.slice a2 n2 c2) _ _ _ :: .own (.slice a3 n3 c3) _ _ _ :: .own (.slice a4 n4 c4) _ _ _ :: .own (.slice a5 n5 c5) _ _ _ :: S) w := hw
      unfold coreP
      repeat (first | refine byW ?_ | (refine byV ?_; intro w hw))
      refine L_callE ?_
      refine (pnumber_any true ht (by omega) hw).mono ?_
      rintro r w hr
      cases hM1 : numberP toks e true (at' + 1) with
      | error q =>
        obtain ⟨p, er⟩ := q
        rw [hM1] at hr
        obtain ⟨rfl, k', hw⟩ := hr
        exact ⟨Γ, Gho.le.refl _, rfl, hw.ds [0, 0, 0, 0, 0, 0, 0]⟩
      | ok q =>
        obtain ⟨id, k1⟩ := q
        obtain ⟨hk1, hk1n⟩ := numberP_at hM1
        rw [hM1] at hr
        obtain ⟨rfl, hw⟩ := hr
        dsimp only
        show L _ _ _ _ _ _ _
        repeat (first | refine byW ?_ | (refine byV ?_; intro w hw))
        refine lBuildSlice (strRows [widthB, nodeB, speedB]) ?_
        intro ab w hw
        repeat (first | refine byW ?_ | (refine byV ?_; intro w hw))
        refine L_callE ?_
        refine (attributes_any [widthB, nodeB, speedB] _ ht hbig (by omega) (by decide) (hw.ps [1])).mono ?_
        rintro r w ⟨Γ', hle, hr⟩
        cases hA : attrP toks e [widthB, nodeB, speedB] k1 with
        | error q =>
          obtain ⟨p, er⟩ := q
          rw [hA] at hr
          obtain ⟨rfl, k', hw⟩ := hr
          exact ⟨Γ', hle, rfl, hw.ds [0, 0, 0, 0, 0, 0, 0, 0]⟩
        | ok q =>
          obtain ⟨got, kz⟩ := q
          obtain ⟨-, hk, hkn2⟩ := attrP_ok hA
          rw [hA] at hr
          obtain ⟨bm, ms, rfl, hms, hmok, hw⟩ := hr
          dsimp only
          show L _ _ _ _ _ _ _
          obtain ⟨A_width, N_width, C_width, x_width, t_width, g_width, r_width, z_width, v_width, y_width⟩ := got_of2 hA hms hmok widthB (by simp)
          obtain ⟨A_node, N_node, C_node, x_node, t_node, g_node, r_node, z_node, v_node, y_node⟩ := got_of2 hA hms hmok nodeB (by simp)
          obtain ⟨A_speed, N_speed, C_speed, x_speed, t_speed, g_speed, r_speed, z_speed, v_speed, y_speed⟩ := got_of2 hA hms hmok speedB (by simp)
          have hw := hw.dropAt 2
          repeat (first | refine byW ?_ | (refine byV ?_; intro w hw))
          refine W_mix2 [_, _] _ [[],[],[],[],[],[],[],[],[],[],[],[],[],[],[],[],[1],[0],[],[],[0]] [[],[],[],[],[0],[],[],[],[],[],[],[],[],[],[],[],[1],[0,1],[],[],[0]] [[58],[57]] hw ?_
          repeat (first | refine mY ?_ | refine mP ?_ | refine mEndAt ?_ | refine mEnd0 ?_ | refine mEnd ?_)
          refine mOne 0 g_width rfl r_width ?_
          repeat (first | refine mY ?_ | refine mP ?_ | refine mEndAt ?_ | refine mEnd0 ?_ | refine mEnd ?_)
          refine mOne 0 g_node rfl r_node ?_
          repeat (first | refine mY ?_ | refine mP ?_ | refine mEndAt ?_ | refine mEnd0 ?_ | refine mEnd ?_)
          refine mOne 0 g_speed rfl r_speed ?_
          repeat (first | refine mY ?_ | refine mP ?_ | refine mEndAt ?_ | refine mEnd0 ?_ | refine mEnd ?_)
          refine mY (v := .agg #[.int .i64 (IntKind.i64.wrap id), .int .i64 (IntKind.i64.wrap x_width), .int .i64 (IntKind.i64.wrap x_node), .int .i64 (IntKind.i64.wrap x_speed)]) ?_ (hy := fun Y w g hw => y_build rfl)
          refine mBuild [enc (⟨IntKind.i64.wrap id, IntKind.i64.wrap x_width, IntKind.i64.wrap x_node, IntKind.i64.wrap x_speed⟩ : CoreT)] ?_
          refine mApp ?_
          repeat (first | refine mY ?_ | refine mP ?_ | refine mEndAt ?_ | refine mEnd0 ?_ | refine mEnd ?_)
          refine mStoreV ?_
          refine mEnd fun w g hw => ?_
          have hw := Wd.dropEnd hw
          rw [show H.Cores.map enc ++ [enc (⟨IntKind.i64.wrap id, IntKind.i64.wrap x_width, IntKind.i64.wrap x_node, IntKind.i64.wrap x_speed⟩ : CoreT)] = (H.Cores ++ [(⟨IntKind.i64.wrap id, intOf got widthB, intOf got nodeB, intOf got speedB⟩ : CoreT)]).map enc from by simp [intOf, v_node, v_speed, v_width]] at hw
          have hw : Wd Γ' (parB bp a n c kz e :: .blk hb (.cells #[.string H.Name, g 58, .slice a2 n2 c2, .slice a3 n3 c3, .slice a4 n4 c4, .slice a5 n5 c5] 35) :: .own (g 58) 77 4 ((H.Cores ++ [(⟨IntKind.i64.wrap id, intOf got widthB, intOf got nodeB, intOf got speedB⟩ : CoreT)]).map enc) :: .own (.slice a2 n2 c2) 79 5 (cs.map cC) :: .own (.slice a3 n3 c3) 82 3 (H.Links.map enc) :: .own (.slice a4 n4 c4) 47 5 (H.Mems.map enc) :: .own (.slice a5 n5 c5) 84 5 (H.Devs.map enc) :: S) w := hw.drop
          repeat (first | refine byW ?_ | (refine byV ?_; intro w hw))
          exact ⟨_, rfl, Γ', hle, rfl, g 58, _, _, _, _, cs, hcs, fun x hx => (hok x hx).mono hle, hw⟩
    have hcore : ¬ t.Text = coreB := of_decide_eq_false h
    rw [if_neg hcore]
    repeat (first | refine byW ?_ | (refine byV ?_; intro w hw))
    refine W_cond rfl (fun h => ?_) (fun h => ?_)
    · have h : t.Text = cacheB := of_decide_eq_true h
      rw [if_pos h]
      unfold parB at hw
      repeat (first | refine byW ?_ | (refine byV ?_; intro w hw))
      refine lStore ?_
      intro w hw
      have hw : Wd Γ (parB bp a n c (at' + 1) e :: .blk hb _ :: .own (.slice a1 n1 c1) _ _ _ :: .own (.slice a2 n2 c2) _ _ _ :: .own (.slice a3 n3 c3) _ _ _ :: .own (.slice a4 n4 c4) _ _ _ :: .own (.slice a5 n5 c5) _ _ _ :: S) w := hw
      unfold cacheP
      repeat (first | refine byW ?_ | (refine byV ?_; intro w hw))
      refine L_callE ?_
      refine (name_any 1 ht (by omega) hw).mono ?_
      rintro r w hr
      cases hM1 : nameP toks e 1 (at' + 1) with
      | error q =>
        obtain ⟨p, er⟩ := q
        rw [hM1] at hr
        obtain ⟨rfl, k', hw⟩ := hr
        exact ⟨Γ, Gho.le.refl _, rfl, hw.ds [0, 0, 0, 0, 0, 0, 0]⟩
      | ok q =>
        obtain ⟨s, k1⟩ := q
        obtain ⟨hk1, hk1n⟩ := itemP_at hM1
        rw [hM1] at hr
        obtain ⟨rfl, hw⟩ := hr
        dsimp only
        show L _ _ _ _ _ _ _
        repeat (first | refine byW ?_ | (refine byV ?_; intro w hw))
        refine lBuildSlice (strRows [levelB, lineB, sizeB, coresB]) ?_
        intro ab w hw
        repeat (first | refine byW ?_ | (refine byV ?_; intro w hw))
        refine L_callE ?_
        refine (attributes_any [levelB, lineB, sizeB, coresB] _ ht hbig (by omega) (by decide) (hw.ps [1])).mono ?_
        rintro r w ⟨Γ', hle, hr⟩
        cases hA : attrP toks e [levelB, lineB, sizeB, coresB] k1 with
        | error q =>
          obtain ⟨p, er⟩ := q
          rw [hA] at hr
          obtain ⟨rfl, k', hw⟩ := hr
          exact ⟨Γ', hle, rfl, hw.ds [0, 0, 0, 0, 0, 0, 0, 0]⟩
        | ok q =>
          obtain ⟨got, kz⟩ := q
          obtain ⟨-, hk, hkn2⟩ := attrP_ok hA
          rw [hA] at hr
          obtain ⟨bm, ms, rfl, hms, hmok, hw⟩ := hr
          dsimp only
          show L _ _ _ _ _ _ _
          obtain ⟨A_level, N_level, C_level, x_level, t_level, g_level, r_level, z_level, v_level, y_level⟩ := got_of2 hA hms hmok levelB (by simp)
          obtain ⟨A_line, N_line, C_line, x_line, t_line, g_line, r_line, z_line, v_line, y_line⟩ := got_of2 hA hms hmok lineB (by simp)
          obtain ⟨A_size, N_size, C_size, x_size, t_size, g_size, r_size, z_size, v_size, y_size⟩ := got_of2 hA hms hmok sizeB (by simp)
          obtain ⟨A_cores, N_cores, C_cores, x_cores, t_cores, g_cores, r_cores, z_cores, v_cores, y_cores⟩ := got_of2 hA hms hmok coresB (by simp)
          have hw := hw.dropAt 2
          repeat (first | refine byW ?_ | (refine byV ?_; intro w hw))
          refine W_mixE 1 [[],[],[],[],[],[],[],[],[],[],[],[],[0],[0]] [[],[],[],[],[],[],[],[],[],[],[],[],[0],[0]] [[10]] ?_
          repeat (first | refine mY ?_ | refine mP ?_ | refine mEndAt ?_ | refine mEnd0 ?_ | refine mEnd ?_)
          refine mOne 0 g_level rfl r_level ?_
          repeat (first | refine mY ?_ | refine mP ?_ | refine mEndAt ?_ | refine mEnd0 ?_ | refine mEnd ?_)
          refine mOne 0 g_line rfl r_line ?_
          repeat (first | refine mY ?_ | refine mP ?_ | refine mEndAt ?_ | refine mEnd0 ?_ | refine mEnd ?_)
          rw [show aGet ms (⟨#[115, 105, 122, 101]⟩ : ByteArray) = some ⟨A_size, N_size, C_size, x_size :: t_size⟩ from g_size]
          refine mY ?_ (hy := fun Y w g hw => y_idxI (i := 0) hw r_size rfl rfl (by omega) (by omega))
          refine mY (v := .int .u64 x_size) ?_ (hy := fun Y w g hw => y_loadE1 (k := 0) rfl (r_size.rd hw) rfl)
          refine mY (v := .agg #[.string s, .int .i64 (IntKind.i64.wrap x_level), .int .i64 (IntKind.i64.wrap x_line), .int .u64 x_size, .slice none 0 0]) ?_ (hy := fun Y w g hw => y_build rfl)
          refine mAlloc ?_
          refine mStoreAt ?_
          repeat (first | refine mY ?_ | refine mP ?_ | refine mEndAt ?_ | refine mEnd0 ?_ | refine mEnd ?_)
          intro be w hw
          have hw : Wd Γ' (.own (.slice none 0 0) 3 1 (intRows ((([] : List Int)).map fun v => IntKind.i64.wrap v)) :: .blk be (.cells #[.string s, .int .i64 (IntKind.i64.wrap x_level), .int .i64 (IntKind.i64.wrap x_line), .int .u64 x_size, .slice none 0 0] 79) :: Res.ms numV bm ms :: parB bp a n c kz e :: .blk hb (.cells #[.string H.Name, .slice a1 n1 c1, .slice a2 n2 c2, .slice a3 n3 c3, .slice a4 n4 c4, .slice a5 n5 c5] 35) :: .own (.slice a1 n1 c1) 77 4 (H.Cores.map enc) :: .own (.slice a2 n2 c2) 79 5 (cs.map cC) :: .own (.slice a3 n3 c3) 82 3 (H.Links.map enc) :: .own (.slice a4 n4 c4) 47 5 (H.Mems.map enc) :: .own (.slice a5 n5 c5) 84 5 (H.Devs.map enc) :: S) w := Wd.addNil hw
          repeat (first | refine byW ?_ | (refine byV ?_; intro w hw))
          rw [show aGet ms (⟨#[99, 111, 114, 101, 115]⟩ : ByteArray) = some ⟨A_cores, N_cores, C_cores, x_cores :: t_cores⟩ from g_cores]
          have hNc : N_cores ≤ n := by
            have := attrP_len hA _ (aGet_mem y_cores)
            simp at this; omega
          refine W_loop (fun μ ρ w => ∃ (kk : Nat) (A9 : Option Addr) (N9 C9 : Nat), μ + kk = N_cores ∧ Has ρ [(0, .pointer (some ⟨bp, 0, none⟩)), (1, .pointer (some ⟨hb, 0, none⟩)), (10, .pointer (some ⟨be, 0, none⟩)), (88, .slice A_cores N_cores C_cores), (89, .int .i64 N_cores), (90, .int .i64 kk)] ∧ Wd Γ' (.own (.slice A9 N9 C9) 3 1 (intRows (((x_cores :: t_cores).take kk).map fun v => IntKind.i64.wrap v)) :: .blk be (.cells #[.string s, .int .i64 (IntKind.i64.wrap x_level), .int .i64 (IntKind.i64.wrap x_line), .int .u64 x_size, .slice A9 N9 C9] 79) :: Res.ms numV bm ms :: parB bp a n c kz e :: .blk hb (.cells #[.string H.Name, .slice a1 n1 c1, .slice a2 n2 c2, .slice a3 n3 c3, .slice a4 n4 c4, .slice a5 n5 c5] 35) :: .own (.slice a1 n1 c1) 77 4 (H.Cores.map enc) :: .own (.slice a2 n2 c2) 79 5 (cs.map cC) :: .own (.slice a3 n3 c3) 82 3 (H.Links.map enc) :: .own (.slice a4 n4 c4) 47 5 (H.Mems.map enc) :: .own (.slice a5 n5 c5) 84 5 (H.Devs.map enc) :: S) w) N_cores ⟨0, none, 0, 0, by omega, ⟨rfl, rfl, rfl, rfl, rfl, rfl, trivial⟩, hw⟩ ?_
          clear hw
          rintro μ ρ w ⟨kk, A9, N9, C9, hkk, hρ, hw⟩
          rw [hρ.eq]
          repeat (first | refine byW ?_ | (refine byV ?_; intro w hw))
          refine W_cond rfl (fun h4 => ?_) (fun h4 => ?_)
          · have h4 : kk < N_cores := by simpa using h4
            obtain ⟨v9, hv9⟩ := get_lt (l := x_cores :: t_cores) (k := kk) (by simp; omega)
            repeat (first | refine byW ?_ | (refine byV ?_; intro w hw))
            refine lBuildSlice [[.int .i64 (IntKind.i64.wrap v9)]] ?_
            intro a98 w hw
            have hw := hw.ps [1]
            obtain ⟨_, _, _, e9, hn9, -, -⟩ := hw.own_shape (i := 0) rfl
            cases e9
            have hn9 : N9 = kk := by simp [intRows] at hn9; omega
            refine lApp (i := 0) (rows2 := [[.int .i64 (IntKind.i64.wrap v9)]]) ?_ (Wd.own_rd (i := 1) hw rfl)
            intro v3 w hw
            have hw := hw.dropAt 1
            rw [show intRows (((x_cores :: t_cores).take kk).map fun v => IntKind.i64.wrap v) ++ [[.int .i64 (IntKind.i64.wrap v9)]] = intRows (((x_cores :: t_cores).take (kk + 1)).map fun v => IntKind.i64.wrap v) by rw [List.take_add_one, hv9]; simp [intRows]] at hw
            obtain ⟨A8, N8, C8, rfl, -, -, -⟩ := hw.own_shape (i := 0) rfl
            repeat (first | refine byW ?_ | (refine byV ?_; intro w hw))
            refine lStore ?_
            intro w hw
            repeat (first | refine byW ?_ | (refine byV ?_; intro w hw))
            exact ⟨μ - 1, by omega, kk + 1, A8, N8, C8, by omega, ⟨rfl, rfl, rfl, rfl, rfl, rfl, trivial⟩, hw⟩
          · have h4 : ¬ kk < N_cores := by simpa using h4
            rw [List.take_of_length_le (by simp; omega)] at hw
            obtain ⟨Γ2, hle2, hr2, hw⟩ := hw.freeze
            repeat (first | refine byW ?_ | (refine byV ?_; intro w hw))
            show W Tryz.prog _ _ _ _ _
            refine W_mix2 [_, _, _] _ [[],[],[],[],[],[],[1],[0],[],[],[0]] [[],[],[],[],[0],[],[1],[0,1],[],[],[0]] [[109],[108]] hw ?_
            repeat (first | refine mY ?_ | refine mP ?_ | refine mEndAt ?_ | refine mEnd0 ?_ | refine mEnd ?_)
            refine mBuild [cC (⟨s, IntKind.i64.wrap x_level, IntKind.i64.wrap x_line, x_size, A9, N9, C9, (x_cores :: t_cores).map fun v => IntKind.i64.wrap v⟩ : CacheH)] ?_
            refine mApp ?_
            repeat (first | refine mY ?_ | refine mP ?_ | refine mEndAt ?_ | refine mEnd0 ?_ | refine mEnd ?_)
            refine mStoreV ?_
            refine mEnd fun w g hw => ?_
            have hw := Wd.dropEnd hw
            rw [show cs.map cC ++ [cC (⟨s, IntKind.i64.wrap x_level, IntKind.i64.wrap x_line, x_size, A9, N9, C9, (x_cores :: t_cores).map fun v => IntKind.i64.wrap v⟩ : CacheH)] = (cs ++ [(⟨s, intOf got levelB, intOf got lineB, numOf got sizeB, A9, N9, C9, ((aGet got coresB).getD []).map fun v => IntKind.i64.wrap v⟩ : CacheH)]).map cC from by simp [intOf, v_level, v_line, v_size, y_cores]] at hw
            have hw : Wd Γ2 (parB bp a n c kz e :: .blk hb (.cells #[.string H.Name, .slice a1 n1 c1, g 109, .slice a3 n3 c3, .slice a4 n4 c4, .slice a5 n5 c5] 35) :: .own (.slice a1 n1 c1) 77 4 (H.Cores.map enc) :: .own (g 109) 79 5 ((cs ++ [(⟨s, intOf got levelB, intOf got lineB, numOf got sizeB, A9, N9, C9, ((aGet got coresB).getD []).map fun v => IntKind.i64.wrap v⟩ : CacheH)]).map cC) :: .own (.slice a3 n3 c3) 82 3 (H.Links.map enc) :: .own (.slice a4 n4 c4) 47 5 (H.Mems.map enc) :: .own (.slice a5 n5 c5) 84 5 (H.Devs.map enc) :: S) w := hw.drop.drop
            repeat (first | refine byW ?_ | (refine byV ?_; intro w hw))
            refine ⟨_, rfl, Γ2, Gho.le.trans hle hle2, rfl, _, g 109, _, _, _, cs ++ [_], ?_, ?_, hw⟩
            · rw [List.map_append, hcs]; rfl
            · intro x hx
              rcases List.mem_append.1 hx with hx | hx
              · exact (hok x hx).mono (Gho.le.trans hle hle2)
              · cases List.mem_singleton.1 hx
                unfold COk
                rw [y_cores]
                exact hr2
    have hcache : ¬ t.Text = cacheB := of_decide_eq_false h
    rw [if_neg hcache]
    repeat (first | refine byW ?_ | (refine byV ?_; intro w hw))
    refine W_cond rfl (fun h => ?_) (fun h => ?_)
    · have h : t.Text = linkB := of_decide_eq_true h
      rw [if_pos h]
      unfold parB at hw
      repeat (first | refine byW ?_ | (refine byV ?_; intro w hw))
      refine lStore ?_
      intro w hw
      have hw : Wd Γ (parB bp a n c (at' + 1) e :: .blk hb _ :: .own (.slice a1 n1 c1) _ _ _ :: .own (.slice a2 n2 c2) _ _ _ :: .own (.slice a3 n3 c3) _ _ _ :: .own (.slice a4 n4 c4) _ _ _ :: .own (.slice a5 n5 c5) _ _ _ :: S) w := hw
      unfold linkP
      repeat (first | refine byW ?_ | (refine byV ?_; intro w hw))
      refine L_callE ?_
      refine (pnumber_any true ht (by omega) hw).mono ?_
      rintro r w hr
      cases hM1 : numberP toks e true (at' + 1) with
      | error q =>
        obtain ⟨p, er⟩ := q
        rw [hM1] at hr
        obtain ⟨rfl, k', hw⟩ := hr
        exact ⟨Γ, Gho.le.refl _, rfl, hw.ds [0, 0, 0, 0, 0, 0, 0]⟩
      | ok q =>
        obtain ⟨x, k1⟩ := q
        obtain ⟨hk1, hk1n⟩ := numberP_at hM1
        rw [hM1] at hr
        obtain ⟨rfl, hw⟩ := hr
        dsimp only
        show L _ _ _ _ _ _ _
        repeat (first | refine byW ?_ | (refine byV ?_; intro w hw))
        refine L_callE ?_
        refine (pnumber_any true ht (by omega) hw).mono ?_
        rintro r w hr
        cases hM2 : numberP toks e true k1 with
        | error q =>
          obtain ⟨p, er⟩ := q
          rw [hM2] at hr
          obtain ⟨rfl, k', hw⟩ := hr
          exact ⟨Γ, Gho.le.refl _, rfl, hw.ds [0, 0, 0, 0, 0, 0, 0]⟩
        | ok q =>
          obtain ⟨y, k2⟩ := q
          obtain ⟨hk2, hk2n⟩ := numberP_at hM2
          rw [hM2] at hr
          obtain ⟨rfl, hw⟩ := hr
          dsimp only
          show L _ _ _ _ _ _ _
          repeat (first | refine byW ?_ | (refine byV ?_; intro w hw))
          refine lBuildSlice (strRows [latencyB]) ?_
          intro ab w hw
          repeat (first | refine byW ?_ | (refine byV ?_; intro w hw))
          refine L_callE ?_
          refine (attributes_any [latencyB] _ ht hbig (by omega) (by decide) (hw.ps [1])).mono ?_
          rintro r w ⟨Γ', hle, hr⟩
          cases hA : attrP toks e [latencyB] k2 with
          | error q =>
            obtain ⟨p, er⟩ := q
            rw [hA] at hr
            obtain ⟨rfl, k', hw⟩ := hr
            exact ⟨Γ', hle, rfl, hw.ds [0, 0, 0, 0, 0, 0, 0, 0]⟩
          | ok q =>
            obtain ⟨got, kz⟩ := q
            obtain ⟨-, hk, hkn2⟩ := attrP_ok hA
            rw [hA] at hr
            obtain ⟨bm, ms, rfl, hms, hmok, hw⟩ := hr
            dsimp only
            show L _ _ _ _ _ _ _
            obtain ⟨A_latency, N_latency, C_latency, x_latency, t_latency, g_latency, r_latency, z_latency, v_latency, y_latency⟩ := got_of2 hA hms hmok latencyB (by simp)
            have hw := hw.dropAt 2
            repeat (first | refine byW ?_ | (refine byV ?_; intro w hw))
            refine W_mix2 [_, _] _ [[],[],[],[],[],[],[],[],[],[],[],[1],[0],[],[],[0]] [[],[],[],[],[0],[],[],[],[],[],[],[1],[0,1],[],[],[0]] [[142],[141]] hw ?_
            repeat (first | refine mY ?_ | refine mP ?_ | refine mEndAt ?_ | refine mEnd0 ?_ | refine mEnd ?_)
            refine mOne 0 g_latency rfl r_latency ?_
            repeat (first | refine mY ?_ | refine mP ?_ | refine mEndAt ?_ | refine mEnd0 ?_ | refine mEnd ?_)
            refine mY (v := .agg #[.int .i64 (IntKind.i64.wrap x), .int .i64 (IntKind.i64.wrap y), .int .i64 (IntKind.i64.wrap x_latency)]) ?_ (hy := fun Y w g hw => y_build rfl)
            refine mBuild [enc (⟨IntKind.i64.wrap x, IntKind.i64.wrap y, IntKind.i64.wrap x_latency⟩ : LinkT)] ?_
            refine mApp ?_
            repeat (first | refine mY ?_ | refine mP ?_ | refine mEndAt ?_ | refine mEnd0 ?_ | refine mEnd ?_)
            refine mStoreV ?_
            refine mEnd fun w g hw => ?_
            have hw := Wd.dropEnd hw
            rw [show H.Links.map enc ++ [enc (⟨IntKind.i64.wrap x, IntKind.i64.wrap y, IntKind.i64.wrap x_latency⟩ : LinkT)] = (H.Links ++ [(⟨IntKind.i64.wrap x, IntKind.i64.wrap y, intOf got latencyB⟩ : LinkT)]).map enc from by simp [intOf, v_latency]] at hw
            have hw : Wd Γ' (parB bp a n c kz e :: .blk hb (.cells #[.string H.Name, .slice a1 n1 c1, .slice a2 n2 c2, g 142, .slice a4 n4 c4, .slice a5 n5 c5] 35) :: .own (.slice a1 n1 c1) 77 4 (H.Cores.map enc) :: .own (.slice a2 n2 c2) 79 5 (cs.map cC) :: .own (g 142) 82 3 ((H.Links ++ [(⟨IntKind.i64.wrap x, IntKind.i64.wrap y, intOf got latencyB⟩ : LinkT)]).map enc) :: .own (.slice a4 n4 c4) 47 5 (H.Mems.map enc) :: .own (.slice a5 n5 c5) 84 5 (H.Devs.map enc) :: S) w := hw.drop
            repeat (first | refine byW ?_ | (refine byV ?_; intro w hw))
            exact ⟨_, rfl, Γ', hle, rfl, _, _, g 142, _, _, cs, hcs, fun x hx => (hok x hx).mono hle, hw⟩
    have hlink : ¬ t.Text = linkB := of_decide_eq_false h
    rw [if_neg hlink]
    repeat (first | refine byW ?_ | (refine byV ?_; intro w hw))
    refine W_cond rfl (fun h => ?_) (fun h => ?_)
    · have h : t.Text = memoryB := of_decide_eq_true h
      rw [if_pos h]
      unfold parB at hw
      repeat (first | refine byW ?_ | (refine byV ?_; intro w hw))
      refine lStore ?_
      intro w hw
      have hw : Wd Γ (parB bp a n c (at' + 1) e :: .blk hb _ :: .own (.slice a1 n1 c1) _ _ _ :: .own (.slice a2 n2 c2) _ _ _ :: .own (.slice a3 n3 c3) _ _ _ :: .own (.slice a4 n4 c4) _ _ _ :: .own (.slice a5 n5 c5) _ _ _ :: S) w := hw
      unfold memP
      repeat (first | refine byW ?_ | (refine byV ?_; intro w hw))
      refine L_callE ?_
      refine (name_any 1 ht (by omega) hw).mono ?_
      rintro r w hr
      cases hM1 : nameP toks e 1 (at' + 1) with
      | error q =>
        obtain ⟨p, er⟩ := q
        rw [hM1] at hr
        obtain ⟨rfl, k', hw⟩ := hr
        exact ⟨Γ, Gho.le.refl _, rfl, hw.ds [0, 0, 0, 0, 0, 0, 0]⟩
      | ok q =>
        obtain ⟨s, k1⟩ := q
        obtain ⟨hk1, hk1n⟩ := itemP_at hM1
        rw [hM1] at hr
        obtain ⟨rfl, hw⟩ := hr
        dsimp only
        show L _ _ _ _ _ _ _
        repeat (first | refine byW ?_ | (refine byV ?_; intro w hw))
        refine lBuildSlice (strRows [baseB, sizeB, nodeB, latencyB]) ?_
        intro ab w hw
        repeat (first | refine byW ?_ | (refine byV ?_; intro w hw))
        refine L_callE ?_
        refine (attributes_any [baseB, sizeB, nodeB, latencyB] _ ht hbig (by omega) (by decide) (hw.ps [1])).mono ?_
        rintro r w ⟨Γ', hle, hr⟩
        cases hA : attrP toks e [baseB, sizeB, nodeB, latencyB] k1 with
        | error q =>
          obtain ⟨p, er⟩ := q
          rw [hA] at hr
          obtain ⟨rfl, k', hw⟩ := hr
          exact ⟨Γ', hle, rfl, hw.ds [0, 0, 0, 0, 0, 0, 0, 0]⟩
        | ok q =>
          obtain ⟨got, kz⟩ := q
          obtain ⟨-, hk, hkn2⟩ := attrP_ok hA
          rw [hA] at hr
          obtain ⟨bm, ms, rfl, hms, hmok, hw⟩ := hr
          dsimp only
          show L _ _ _ _ _ _ _
          obtain ⟨A_base, N_base, C_base, x_base, t_base, g_base, r_base, z_base, v_base, y_base⟩ := got_of2 hA hms hmok baseB (by simp)
          obtain ⟨A_size, N_size, C_size, x_size, t_size, g_size, r_size, z_size, v_size, y_size⟩ := got_of2 hA hms hmok sizeB (by simp)
          obtain ⟨A_node, N_node, C_node, x_node, t_node, g_node, r_node, z_node, v_node, y_node⟩ := got_of2 hA hms hmok nodeB (by simp)
          obtain ⟨A_latency, N_latency, C_latency, x_latency, t_latency, g_latency, r_latency, z_latency, v_latency, y_latency⟩ := got_of2 hA hms hmok latencyB (by simp)
          have hw := hw.dropAt 2
          repeat (first | refine byW ?_ | (refine byV ?_; intro w hw))
          refine W_mix2 [_, _] _ [[],[],[],[],[],[],[],[],[],[],[],[],[],[],[],[],[],[],[],[],[],[1],[0],[],[],[0]] [[],[],[],[],[0],[],[],[],[],[],[],[],[],[],[],[],[],[],[],[],[],[1],[0,1],[],[],[0]] [[181],[180]] hw ?_
          repeat (first | refine mY ?_ | refine mP ?_ | refine mEndAt ?_ | refine mEnd0 ?_ | refine mEnd ?_)
          rw [show aGet ms (⟨#[98, 97, 115, 101]⟩ : ByteArray) = some ⟨A_base, N_base, C_base, x_base :: t_base⟩ from g_base]
          refine mY ?_ (hy := fun Y w g hw => y_idxI (i := 0) hw r_base rfl rfl (by omega) (by omega))
          refine mY (v := .int .u64 x_base) ?_ (hy := fun Y w g hw => y_loadE1 (k := 0) rfl (r_base.rd hw) rfl)
          repeat (first | refine mY ?_ | refine mP ?_ | refine mEndAt ?_ | refine mEnd0 ?_ | refine mEnd ?_)
          rw [show aGet ms (⟨#[115, 105, 122, 101]⟩ : ByteArray) = some ⟨A_size, N_size, C_size, x_size :: t_size⟩ from g_size]
          refine mY ?_ (hy := fun Y w g hw => y_idxI (i := 0) hw r_size rfl rfl (by omega) (by omega))
          refine mY (v := .int .u64 x_size) ?_ (hy := fun Y w g hw => y_loadE1 (k := 0) rfl (r_size.rd hw) rfl)
          repeat (first | refine mY ?_ | refine mP ?_ | refine mEndAt ?_ | refine mEnd0 ?_ | refine mEnd ?_)
          refine mOne 0 g_node rfl r_node ?_
          repeat (first | refine mY ?_ | refine mP ?_ | refine mEndAt ?_ | refine mEnd0 ?_ | refine mEnd ?_)
          refine mOne 0 g_latency rfl r_latency ?_
          repeat (first | refine mY ?_ | refine mP ?_ | refine mEndAt ?_ | refine mEnd0 ?_ | refine mEnd ?_)
          refine mY (v := .agg #[.string s, .int .u64 x_base, .int .u64 x_size, .int .i64 (IntKind.i64.wrap x_node), .int .i64 (IntKind.i64.wrap x_latency)]) ?_ (hy := fun Y w g hw => y_build rfl)
          refine mBuild [enc (⟨s, x_base, x_size, IntKind.i64.wrap x_node, IntKind.i64.wrap x_latency⟩ : MemT)] ?_
          refine mApp ?_
          repeat (first | refine mY ?_ | refine mP ?_ | refine mEndAt ?_ | refine mEnd0 ?_ | refine mEnd ?_)
          refine mStoreV ?_
          refine mEnd fun w g hw => ?_
          have hw := Wd.dropEnd hw
          rw [show H.Mems.map enc ++ [enc (⟨s, x_base, x_size, IntKind.i64.wrap x_node, IntKind.i64.wrap x_latency⟩ : MemT)] = (H.Mems ++ [(⟨s, numOf got baseB, numOf got sizeB, intOf got nodeB, intOf got latencyB⟩ : MemT)]).map enc from by simp [intOf, v_base, v_latency, v_node, v_size]] at hw
          have hw : Wd Γ' (parB bp a n c kz e :: .blk hb (.cells #[.string H.Name, .slice a1 n1 c1, .slice a2 n2 c2, .slice a3 n3 c3, g 181, .slice a5 n5 c5] 35) :: .own (.slice a1 n1 c1) 77 4 (H.Cores.map enc) :: .own (.slice a2 n2 c2) 79 5 (cs.map cC) :: .own (.slice a3 n3 c3) 82 3 (H.Links.map enc) :: .own (g 181) 47 5 ((H.Mems ++ [(⟨s, numOf got baseB, numOf got sizeB, intOf got nodeB, intOf got latencyB⟩ : MemT)]).map enc) :: .own (.slice a5 n5 c5) 84 5 (H.Devs.map enc) :: S) w := hw.drop
          repeat (first | refine byW ?_ | (refine byV ?_; intro w hw))
          exact ⟨_, rfl, Γ', hle, rfl, _, _, _, g 181, _, cs, hcs, fun x hx => (hok x hx).mono hle, hw⟩
    have hmemory : ¬ t.Text = memoryB := of_decide_eq_false h
    rw [if_neg hmemory]
    repeat (first | refine byW ?_ | (refine byV ?_; intro w hw))
    refine W_cond rfl (fun h => ?_) (fun h => ?_)
    · have h : t.Text = deviceB := of_decide_eq_true h
      rw [if_pos h]
      unfold parB at hw
      repeat (first | refine byW ?_ | (refine byV ?_; intro w hw))
      refine lStore ?_
      intro w hw
      have hw : Wd Γ (parB bp a n c (at' + 1) e :: .blk hb _ :: .own (.slice a1 n1 c1) _ _ _ :: .own (.slice a2 n2 c2) _ _ _ :: .own (.slice a3 n3 c3) _ _ _ :: .own (.slice a4 n4 c4) _ _ _ :: .own (.slice a5 n5 c5) _ _ _ :: S) w := hw
      unfold devP
      repeat (first | refine byW ?_ | (refine byV ?_; intro w hw))
      refine L_callE ?_
      refine (name_any 1 ht (by omega) hw).mono ?_
      rintro r w hr
      cases hM1 : nameP toks e 1 (at' + 1) with
      | error q =>
        obtain ⟨p, er⟩ := q
        rw [hM1] at hr
        obtain ⟨rfl, k', hw⟩ := hr
        exact ⟨Γ, Gho.le.refl _, rfl, hw.ds [0, 0, 0, 0, 0, 0, 0]⟩
      | ok q =>
        obtain ⟨s, k1⟩ := q
        obtain ⟨hk1, hk1n⟩ := itemP_at hM1
        rw [hM1] at hr
        obtain ⟨rfl, hw⟩ := hr
        dsimp only
        show L _ _ _ _ _ _ _
        repeat (first | refine byW ?_ | (refine byV ?_; intro w hw))
        refine lBuildSlice (strRows [nodeB, irqB, baseB, sizeB]) ?_
        intro ab w hw
        repeat (first | refine byW ?_ | (refine byV ?_; intro w hw))
        refine L_callE ?_
        refine (attributes_any [nodeB, irqB, baseB, sizeB] _ ht hbig (by omega) (by decide) (hw.ps [1])).mono ?_
        rintro r w ⟨Γ', hle, hr⟩
        cases hA : attrP toks e [nodeB, irqB, baseB, sizeB] k1 with
        | error q =>
          obtain ⟨p, er⟩ := q
          rw [hA] at hr
          obtain ⟨rfl, k', hw⟩ := hr
          exact ⟨Γ', hle, rfl, hw.ds [0, 0, 0, 0, 0, 0, 0, 0]⟩
        | ok q =>
          obtain ⟨got, kz⟩ := q
          obtain ⟨-, hk, hkn2⟩ := attrP_ok hA
          rw [hA] at hr
          obtain ⟨bm, ms, rfl, hms, hmok, hw⟩ := hr
          dsimp only
          show L _ _ _ _ _ _ _
          obtain ⟨A_node, N_node, C_node, x_node, t_node, g_node, r_node, z_node, v_node, y_node⟩ := got_of2 hA hms hmok nodeB (by simp)
          obtain ⟨A_irq, N_irq, C_irq, x_irq, t_irq, g_irq, r_irq, z_irq, v_irq, y_irq⟩ := got_of2 hA hms hmok irqB (by simp)
          obtain ⟨A_base, N_base, C_base, x_base, t_base, g_base, r_base, z_base, v_base, y_base⟩ := got_of2 hA hms hmok baseB (by simp)
          obtain ⟨A_size, N_size, C_size, x_size, t_size, g_size, r_size, z_size, v_size, y_size⟩ := got_of2 hA hms hmok sizeB (by simp)
          have hw := hw.dropAt 2
          repeat (first | refine byW ?_ | (refine byV ?_; intro w hw))
          refine W_mix2 [_, _] _ [[],[],[],[],[],[],[],[],[],[],[],[],[],[],[],[],[],[],[],[],[],[1],[0],[],[],[0]] [[],[],[],[],[0],[],[],[],[],[],[],[],[],[],[],[],[],[],[],[],[],[1],[0,1],[],[],[0]] [[220],[219]] hw ?_
          repeat (first | refine mY ?_ | refine mP ?_ | refine mEndAt ?_ | refine mEnd0 ?_ | refine mEnd ?_)
          refine mOne 0 g_node rfl r_node ?_
          repeat (first | refine mY ?_ | refine mP ?_ | refine mEndAt ?_ | refine mEnd0 ?_ | refine mEnd ?_)
          refine mOne 0 g_irq rfl r_irq ?_
          repeat (first | refine mY ?_ | refine mP ?_ | refine mEndAt ?_ | refine mEnd0 ?_ | refine mEnd ?_)
          rw [show aGet ms (⟨#[98, 97, 115, 101]⟩ : ByteArray) = some ⟨A_base, N_base, C_base, x_base :: t_base⟩ from g_base]
          refine mY ?_ (hy := fun Y w g hw => y_idxI (i := 0) hw r_base rfl rfl (by omega) (by omega))
          refine mY (v := .int .u64 x_base) ?_ (hy := fun Y w g hw => y_loadE1 (k := 0) rfl (r_base.rd hw) rfl)
          repeat (first | refine mY ?_ | refine mP ?_ | refine mEndAt ?_ | refine mEnd0 ?_ | refine mEnd ?_)
          rw [show aGet ms (⟨#[115, 105, 122, 101]⟩ : ByteArray) = some ⟨A_size, N_size, C_size, x_size :: t_size⟩ from g_size]
          refine mY ?_ (hy := fun Y w g hw => y_idxI (i := 0) hw r_size rfl rfl (by omega) (by omega))
          refine mY (v := .int .u64 x_size) ?_ (hy := fun Y w g hw => y_loadE1 (k := 0) rfl (r_size.rd hw) rfl)
          repeat (first | refine mY ?_ | refine mP ?_ | refine mEndAt ?_ | refine mEnd0 ?_ | refine mEnd ?_)
          refine mY (v := .agg #[.string s, .int .i64 (IntKind.i64.wrap x_node), .int .i64 (IntKind.i64.wrap x_irq), .int .u64 x_base, .int .u64 x_size]) ?_ (hy := fun Y w g hw => y_build rfl)
          refine mBuild [enc (⟨s, IntKind.i64.wrap x_node, IntKind.i64.wrap x_irq, x_base, x_size⟩ : DevT)] ?_
          refine mApp ?_
          repeat (first | refine mY ?_ | refine mP ?_ | refine mEndAt ?_ | refine mEnd0 ?_ | refine mEnd ?_)
          refine mStoreV ?_
          refine mEnd fun w g hw => ?_
          have hw := Wd.dropEnd hw
          rw [show H.Devs.map enc ++ [enc (⟨s, IntKind.i64.wrap x_node, IntKind.i64.wrap x_irq, x_base, x_size⟩ : DevT)] = (H.Devs ++ [(⟨s, intOf got nodeB, intOf got irqB, numOf got baseB, numOf got sizeB⟩ : DevT)]).map enc from by simp [intOf, v_base, v_irq, v_node, v_size]] at hw
          have hw : Wd Γ' (parB bp a n c kz e :: .blk hb (.cells #[.string H.Name, .slice a1 n1 c1, .slice a2 n2 c2, .slice a3 n3 c3, .slice a4 n4 c4, g 220] 35) :: .own (.slice a1 n1 c1) 77 4 (H.Cores.map enc) :: .own (.slice a2 n2 c2) 79 5 (cs.map cC) :: .own (.slice a3 n3 c3) 82 3 (H.Links.map enc) :: .own (.slice a4 n4 c4) 47 5 (H.Mems.map enc) :: .own (g 220) 84 5 ((H.Devs ++ [(⟨s, intOf got nodeB, intOf got irqB, numOf got baseB, numOf got sizeB⟩ : DevT)]).map enc) :: S) w := hw.drop
          repeat (first | refine byW ?_ | (refine byV ?_; intro w hw))
          exact ⟨_, rfl, Γ', hle, rfl, _, _, _, _, g 220, cs, hcs, fun x hx => (hok x hx).mono hle, hw⟩
    have hdev : ¬ t.Text = deviceB := of_decide_eq_false h
    rw [if_neg hdev]
    repeat (first | refine byW ?_ | (refine byV ?_; intro w hw))
    refine L_callE ?_
    refine (fail_any 50 ht hw).mono ?_
    rintro r w ⟨rfl, hw⟩
    exact ⟨Γ, Gho.le.refl _, rfl, hw.ds [0, 0, 0, 0, 0, 0, 0]⟩
end
end Go.Proofs.YtimbobmmijgkiaaGreatDoor
end
/- The program's parser: a whole description. -/
section
open Go Mk
namespace Go.Proofs.YtimbobmmijgkiaaGreatDoor
set_option maxHeartbeats 4000000

theorem PR.map_ok {α β : Type} {f : α → β} {x : PR α} {y : β} {k : Nat} (h : PR.map f x = .ok (y, k)) : ∃ z, x = .ok (z, k) ∧ y = f z := by
  cases x with
  | error q => cases h
  | ok q => obtain ⟨z, j⟩ := q; cases h; exact ⟨z, rfl, rfl⟩
theorem num_attr {α : Type} {toks : List Tok} {e : PosT} {k k2 : Nat} {names : List ByteArray} {F : Got → α} {y : α} (h : (match attrP toks e names k with | .error q => (.error q : PR α) | .ok (a, k2) => .ok (F a, k2)) = .ok (y, k2)) : k < k2 ∧ k2 ≤ toks.length := by
  cases hA : attrP toks e names k with
  | error q => rw [hA] at h; cases h
  | ok q =>
    obtain ⟨a, j⟩ := q
    rw [hA] at h; cases h
    exact (attrP_ok hA).2
theorem coreP_at {toks : List Tok} {e : PosT} {k k2 : Nat} {y : CoreT} (h : coreP toks e k = .ok (y, k2)) : k < k2 ∧ k2 ≤ toks.length := by
  unfold coreP at h
  cases hN : numberP toks e true k with
  | error q => rw [hN] at h; cases h
  | ok q =>
    obtain ⟨x, j⟩ := q
    obtain ⟨rfl, h2⟩ := numberP_at hN
    rw [hN] at h
    have := num_attr h
    omega
theorem linkP_at {toks : List Tok} {e : PosT} {k k2 : Nat} {y : LinkT} (h : linkP toks e k = .ok (y, k2)) : k < k2 ∧ k2 ≤ toks.length := by
  unfold linkP at h
  cases hN : numberP toks e true k with
  | error q => rw [hN] at h; cases h
  | ok q =>
    obtain ⟨x, j⟩ := q
    obtain ⟨rfl, h2⟩ := numberP_at hN
    rw [hN] at h
    dsimp only at h
    cases hN2 : numberP toks e true (k + 1) with
    | error q => rw [hN2] at h; cases h
    | ok q =>
      obtain ⟨x, j⟩ := q
      obtain ⟨rfl, h2⟩ := numberP_at hN2
      rw [hN2] at h
      have := num_attr h
      omega
theorem cacheP_at {toks : List Tok} {e : PosT} {k k2 : Nat} {y : CacheT} (h : cacheP toks e k = .ok (y, k2)) : k < k2 ∧ k2 ≤ toks.length := by
  unfold cacheP at h
  cases hN : nameP toks e 1 k with
  | error q => rw [hN] at h; cases h
  | ok q =>
    obtain ⟨x, j⟩ := q
    obtain ⟨rfl, h2⟩ := itemP_at hN
    rw [hN] at h
    have := num_attr h
    omega
theorem memP_at {toks : List Tok} {e : PosT} {k k2 : Nat} {y : MemT} (h : memP toks e k = .ok (y, k2)) : k < k2 ∧ k2 ≤ toks.length := by
  unfold memP at h
  cases hN : nameP toks e 1 k with
  | error q => rw [hN] at h; cases h
  | ok q =>
    obtain ⟨x, j⟩ := q
    obtain ⟨rfl, h2⟩ := itemP_at hN
    rw [hN] at h
    have := num_attr h
    omega
theorem devP_at {toks : List Tok} {e : PosT} {k k2 : Nat} {y : DevT} (h : devP toks e k = .ok (y, k2)) : k < k2 ∧ k2 ≤ toks.length := by
  unfold devP at h
  cases hN : nameP toks e 1 k with
  | error q => rw [hN] at h; cases h
  | ok q =>
    obtain ⟨x, j⟩ := q
    obtain ⟨rfl, h2⟩ := itemP_at hN
    rw [hN] at h
    have := num_attr h
    omega
theorem itemP_ok {toks : List Tok} {e : PosT} {k k2 : Nat} {H H2 : HwT} (h : itemP toks e k H = .ok (H2, k2)) : k < k2 ∧ k2 ≤ toks.length ∧ (Small H k → Small H2 k2) ∧ H2.Name = H.Name := by
  unfold itemP at h
  cases hN : nextP toks e 1 k with
  | error q => rw [hN] at h; cases h
  | ok q =>
    obtain ⟨t, j⟩ := q
    rw [hN] at h
    dsimp only at h
    split at h
    · obtain ⟨z, h1, rfl⟩ := PR.map_ok h
      obtain ⟨h2, h3⟩ := coreP_at h1
      exact ⟨by omega, h3, fun ⟨s1, s2, s3, s4, s5⟩ => ⟨by simp; omega, by dsimp; omega, by dsimp; omega, by dsimp; omega, by dsimp; omega⟩, rfl⟩
    split at h
    · obtain ⟨z, h1, rfl⟩ := PR.map_ok h
      obtain ⟨h2, h3⟩ := cacheP_at h1
      exact ⟨by omega, h3, fun ⟨s1, s2, s3, s4, s5⟩ => ⟨by dsimp; omega, by simp; omega, by dsimp; omega, by dsimp; omega, by dsimp; omega⟩, rfl⟩
    split at h
    · obtain ⟨z, h1, rfl⟩ := PR.map_ok h
      obtain ⟨h2, h3⟩ := linkP_at h1
      exact ⟨by omega, h3, fun ⟨s1, s2, s3, s4, s5⟩ => ⟨by dsimp; omega, by dsimp; omega, by simp; omega, by dsimp; omega, by dsimp; omega⟩, rfl⟩
    split at h
    · obtain ⟨z, h1, rfl⟩ := PR.map_ok h
      obtain ⟨h2, h3⟩ := memP_at h1
      exact ⟨by omega, h3, fun ⟨s1, s2, s3, s4, s5⟩ => ⟨by dsimp; omega, by dsimp; omega, by dsimp; omega, by simp; omega, by dsimp; omega⟩, rfl⟩
    split at h
    · obtain ⟨z, h1, rfl⟩ := PR.map_ok h
      obtain ⟨h2, h3⟩ := devP_at h1
      exact ⟨by omega, h3, fun ⟨s1, s2, s3, s4, s5⟩ => ⟨by dsimp; omega, by dsimp; omega, by dsimp; omega, by dsimp; omega, by simp; omega⟩, rfl⟩
    cases h
attribute [local irreducible] Calls nextP numberP expectP isS posOf moreN memB nameP attrP itemP
/-- A description that is answered. -/
def HwOut (Γ : Gho) (H : HwT) (S : List Res) (u : Value) (w : World) : Prop := ∃ (v1 v2 v3 v4 v5 : Value) (cs : List CacheH), cs.map CacheH.T = H.Caches ∧ (∀ c ∈ cs, COk Γ c) ∧ u = .agg #[.string H.Name, v1, v2, v3, v4, v5] ∧
  Wd Γ (.own v1 77 4 (H.Cores.map enc) :: .own v2 79 5 (cs.map cC) :: .own v3 82 3 (H.Links.map enc) :: .own v4 47 5 (H.Mems.map enc) :: .own v5 84 5 (H.Devs.map enc) :: S) w
section
variable {Γ : Gho} {S : List Res} {w : World} {bp hb : Nat} {a : Option Addr} {n c : Nat} {e : PosT} {toks : List Tok}
theorem hardware_any (ht : RepS Γ (.slice a n c) 5 (toks.map enc)) (hbig : n ≤ 1000000) (hw : Wd Γ (parB bp a n c 0 e :: S) w) :
    Calls Tryz.prog 27 #[.pointer (some ⟨bp, 0, none⟩)] w fun r w' => ∃ Γ', Γ.le Γ' ∧ (match hardwareP toks e with
      | .ok (H, _) => ∃ u, r = .returned u ∧ HwOut Γ' H S u w'
      | .error (p, er) => r = .panicked [failE p er] ∧ Wd Γ' S w') := by
  have hn : n = toks.length ∧ n ≤ c ∧ c ≤ 9223372036854775807 := by obtain ⟨_, _, _, h1, h2, h3⟩ := ht.shape; cases h1; exact ⟨by simpa using h2, h3⟩
  obtain ⟨hn, hnc, hc⟩ := hn
  refine calls_of_WC Tryz.func27 rfl rfl ?_
  repeat (first | refine byW ?_ | (refine byV ?_; intro w hw))
  refine lAlloc ?_
  intro b2 w hw
  repeat (first | refine byW ?_ | (refine byV ?_; intro w hw))
  refine lAlloc ?_
  intro hb w hw
  repeat (first | refine byW ?_ | (refine byV ?_; intro w hw))
  refine L_callE ?_
  refine (expect_any 1 machineB ht (by omega) (hw.ps [2])).mono ?_
  rintro r w hr
  unfold hardwareP
  cases hE : expectP toks e 1 machineB 0 with
  | error q =>
    obtain ⟨p, er⟩ := q
    rw [hE] at hr
    obtain ⟨rfl, k', hw⟩ := hr
    exact ⟨Γ, Gho.le.refl _, rfl, hw.ds [0, 0, 0]⟩
  | ok q =>
    obtain ⟨⟨⟩, k1⟩ := q
    obtain ⟨hk1, hk1n⟩ := expectP_at hE
    rw [hE] at hr
    obtain ⟨rfl, hw⟩ := hr
    dsimp only
    show L _ _ _ _ _ _ _
    repeat (first | refine byW ?_ | (refine byV ?_; intro w hw))
    refine L_callE ?_
    refine (name_any 3 ht (by omega) hw).mono ?_
    rintro r w hr
    cases hM : nameP toks e 3 k1 with
    | error q =>
      obtain ⟨p, er⟩ := q
      rw [hM] at hr
      obtain ⟨rfl, k', hw⟩ := hr
      exact ⟨Γ, Gho.le.refl _, rfl, hw.ds [0, 0, 0]⟩
    | ok q =>
      obtain ⟨s, k2⟩ := q
      obtain ⟨hk2, hk2n⟩ := itemP_at hM
      rw [hM] at hr
      obtain ⟨rfl, hw⟩ := hr
      dsimp only
      show L _ _ _ _ _ _ _
      repeat (first | refine byW ?_ | (refine byV ?_; intro w hw))
      refine lStore (i := 1) ?_
      intro w hw
      have hw : Wd Γ (parB bp a n c k2 e :: .blk hb (.cells #[.string s, .slice none 0 0, .slice none 0 0, .slice none 0 0, .slice none 0 0, .slice none 0 0] 35) :: .blk b2 (.cells #[.string ⟨#[]⟩, .slice none 0 0, .slice none 0 0, .slice none 0 0, .slice none 0 0, .slice none 0 0] 35) :: S) w := hw
      repeat (first | refine byW ?_ | (refine byV ?_; intro w hw))
      refine L_callE ?_
      refine (expect_any 4 openB ht (by omega) hw).mono ?_
      rintro r w hr
      cases hF : expectP toks e 4 openB k2 with
      | error q =>
        obtain ⟨p, er⟩ := q
        rw [hF] at hr
        obtain ⟨rfl, k', hw⟩ := hr
        exact ⟨Γ, Gho.le.refl _, rfl, hw.ds [0, 0, 0]⟩
      | ok q =>
        obtain ⟨⟨⟩, k3⟩ := q
        obtain ⟨hk3, hk3n⟩ := expectP_at hF
        rw [hF] at hr
        obtain ⟨rfl, hw⟩ := hr
        dsimp only
        show L _ _ _ _ _ _ _
        have hw : HwIn Γ [parB bp a n c k3 e] hb ⟨s, [], [], [], [], []⟩ (.blk b2 (.cells #[.string ⟨#[]⟩, .slice none 0 0, .slice none 0 0, .slice none 0 0, .slice none 0 0, .slice none 0 0] 35) :: S) w :=
          ⟨_, _, _, _, _, [], rfl, by simp, Wd.ps [6, 6] (Wd.addNil (a := none) (Wd.addNil (a := none) (Wd.addNil (a := none) (Wd.addNil (a := none) (Wd.addNil (a := none) hw)))))⟩
        repeat (first | refine byW ?_ | (refine byV ?_; intro w hw))
        refine W_loop (fun μ ρ w => ∃ (k : Nat) (H : HwT) (Γ' : Gho), k ≤ n ∧ n < μ + k ∧ Has ρ [(0, .pointer (some ⟨bp, 0, none⟩)), (2, .pointer (some ⟨b2, 0, none⟩)), (3, .pointer (some ⟨hb, 0, none⟩))] ∧ Γ.le Γ' ∧ Small H k ∧ itemsP toks e (toks.length + 1) k3 ⟨s, [], [], [], [], []⟩ = itemsP toks e μ k H ∧ HwIn Γ' [parB bp a n c k e] hb H (.blk b2 (.cells #[.string ⟨#[]⟩, .slice none 0 0, .slice none 0 0, .slice none 0 0, .slice none 0 0, .slice none 0 0] 35) :: S) w) (toks.length + 1) ⟨k3, _, Γ, by omega, by omega, ⟨rfl, rfl, rfl, trivial⟩, Gho.le.refl _, ⟨by simp, by simp, by simp, by simp, by simp⟩, rfl, hw⟩ ?_
        clear hw hE hM hF
        rintro μ ρ w ⟨k, H, Γ', hk, hμ, hρ, hle, hsm, hA, hw⟩
        rw [hρ.eq]
        obtain ⟨f, rfl⟩ : ∃ f, μ = f + 1 := ⟨μ - 1, by omega⟩
        have ht' := ht.mono hle
        rw [hA]
        obtain ⟨v1, v2, v3, v4, v5, cs, hcs, hok, hw⟩ := hw
        have hw : Wd Γ' (parB bp a n c k e :: _) w := hw
        repeat (first | refine byW ?_ | (refine byV ?_; intro w hw))
        refine lCall ?_
        refine (is_any 4 closeB ht' hw).mono ?_
        rintro r w ⟨rfl, hw⟩
        refine ⟨_, rfl, ?_⟩
        repeat (first | refine byW ?_ | (refine byV ?_; intro w hw))
        refine W_cond rfl (fun h => ?_) (fun h => ?_)
        · have h : ¬ isS toks k 4 closeB = true := by simpa using h
          rw [show itemsP toks e (f + 1) k H = match itemP toks e k H with | .error q => .error q | .ok (H', k') => itemsP toks e f k' H' from if_neg h]
          repeat (first | refine byW ?_ | (refine byV ?_; intro w hw))
          refine L_callE ?_
          refine (item_any ht' hbig hk hsm ⟨v1, v2, v3, v4, v5, cs, hcs, hok, hw⟩).mono ?_
          rintro r w ⟨Γ2, hle2, hr⟩
          cases hI : itemP toks e k H with
          | error q =>
            obtain ⟨p, er⟩ := q
            rw [hI] at hr
            obtain ⟨rfl, hw⟩ := hr
            exact ⟨Γ2, hle.trans hle2, rfl, hw.drop⟩
          | ok q =>
            obtain ⟨H2, k4⟩ := q
            obtain ⟨i1, i2, i3, -⟩ := itemP_ok hI
            rw [hI] at hr
            obtain ⟨rfl, hw⟩ := hr
            dsimp only
            show L _ _ _ _ _ _ _
            repeat (first | refine byW ?_ | (refine byV ?_; intro w hw))
            exact ⟨f, by omega, k4, H2, Γ2, by omega, by omega, ⟨rfl, rfl, rfl, trivial⟩, hle.trans hle2, i3 hsm, rfl, hw⟩
        · have h : isS toks k 4 closeB = true := by simpa using h
          have hlt := isS_lt h
          rw [show itemsP toks e (f + 1) k H = .ok (H, k) from if_pos h]
          dsimp only
          unfold parB at hw
          repeat (first | refine byW ?_ | (refine byV ?_; intro w hw))
          refine lStore ?_
          intro w hw
          have hw : Wd Γ' (parB bp a n c (k + 1) e :: .blk hb _ :: .own v1 _ _ _ :: .own v2 _ _ _ :: .own v3 _ _ _ :: .own v4 _ _ _ :: .own v5 _ _ _ :: .blk b2 _ :: S) w := hw
          unfold parB at hw
          repeat (first | refine byW ?_ | (refine byV ?_; intro w hw))
          refine W_quiet (by kernel_rfl) (by kernel_rfl) hw ?_
          repeat (first | refine Q_nil ?_ | (apply Q_plain; first | (apply Q_go; first | refine qP ?_ | refine qPg ?_) | refine qY ?_) | (apply Q_guarded; first | (apply Q_go; first | refine qPG ?_ | refine qPgG ?_) | refine qG ?_))
          intro w hw
          have hw : Wd Γ' (parB bp a n c (k + 1) e :: .blk hb _ :: .own v1 _ _ _ :: .own v2 _ _ _ :: .own v3 _ _ _ :: .own v4 _ _ _ :: .own v5 _ _ _ :: .blk b2 _ :: S) w := hw
          refine W_cond rfl (fun h2 => ?_) (fun h2 => ?_)
          · have h2 : k + 1 < toks.length := by simp at h2; omega
            rw [if_pos h2]
            repeat (first | refine byW ?_ | (refine byV ?_; intro w hw))
            refine L_callE ?_
            refine (fail_any 50 ht' hw).mono ?_
            rintro r w ⟨rfl, hw⟩
            exact ⟨Γ', hle, rfl, hw.ds [0, 0, 0, 0, 0, 0, 0, 0]⟩
          · have h2 : ¬ k + 1 < toks.length := by simp at h2; omega
            rw [if_neg h2]
            obtain ⟨a1, n1, c1, rfl, -, -, -⟩ := hw.own_shape (i := 2) rfl
            obtain ⟨a2, n2, c2, rfl, -, -, -⟩ := hw.own_shape (i := 3) rfl
            obtain ⟨a3, n3, c3, rfl, -, -, -⟩ := hw.own_shape (i := 4) rfl
            obtain ⟨a4, n4, c4, rfl, -, -, -⟩ := hw.own_shape (i := 5) rfl
            obtain ⟨a5, n5, c5, rfl, -, -, -⟩ := hw.own_shape (i := 6) rfl
            repeat (first | refine byW ?_ | (refine byV ?_; intro w hw))
            refine lStore (i := 7) ?_
            intro w hw
            repeat (first | refine byW ?_ | (refine byV ?_; intro w hw))
            exact ⟨[.agg #[.string H.Name, .slice a1 n1 c1, .slice a2 n2 c2, .slice a3 n3 c3, .slice a4 n4 c4, .slice a5 n5 c5]], ⟨resC (i := 7) hw rfl rfl rfl, trivial⟩, Γ', hle, _, rfl, _, _, _, _, _, cs, hcs, hok, rfl, hw.ds [0, 0, 5]⟩
end
end Go.Proofs.YtimbobmmijgkiaaGreatDoor
end
/- The position of the end of a text. -/
section
open Go Mk
namespace Go.Proofs.YtimbobmmijgkiaaGreatDoor
set_option maxHeartbeats 4000000
attribute [local irreducible] Calls

theorem endOf_any {Γ : Gho} {S : List Res} (s : ByteArray) (hs : s.size ≤ 4611686018427387904) (w : World) (hw : Wd Γ S w) : Calls Tryz.prog 26 #[.string s] w fun e w' => e = .returned (.agg (enc (endP s)).toArray) ∧ Wd Γ S w' := by
  have hL := posLine (s := s) (k := s.size) (Nat.le_refl _)
  rw [List.take_of_length_le (by simp)] at hL
  have hcnt : s.data.toList.count 10 ≤ s.size := by
    have := List.count_le_length (a := (10 : UInt8)) (l := s.data.toList)
    simpa using this
  have hcol : 1 ≤ (endP s).Col ∧ (endP s).Col ≤ s.size + 1 := by
    have : ∀ k, 1 ≤ (posAt s k).Col ∧ (posAt s k).Col ≤ k + 1 := fun k => by
      induction k with
      | zero => simp [posAt]
      | succ k ih =>
        unfold posAt; split
        · simp; omega
        · simp; omega
    exact this _
  have hC := pc_CountNl s
  have hL2 := pc_LastNl s hs
  refine calls_of_WC Tryz.func26 rfl rfl ?_
  repeat (first | refine byW ?_ | (refine byV ?_; intro w hw))
  refine lAlloc ?_
  intro b2 w hw
  repeat (first | refine byW ?_ | (refine byV ?_; intro w hw))
  refine lStore ?_
  intro w hw
  have hw : Wd Γ (.blk b2 (.cells #[.int .i64 (((s.data.toList.count 10 : Nat) : Int) + 1), .int .i64 ((s.size : Int) - ((s.size : Int) - (endP s).Col))] 25) :: S) w := hw
  rw [show (((s.data.toList.count 10 : Nat) : Int) + 1) = (endP s).Line from by unfold endP; rw [hL]; omega, show (s.size : Int) - ((s.size : Int) - (endP s).Col) = (endP s).Col from by omega] at hw
  have hw : Wd Γ (.blk b2 (.cells (enc (endP s)).toArray 25) :: S) w := hw
  repeat (first | refine byW ?_ | (refine byV ?_; intro w hw))
  exact ⟨[.agg (enc (endP s)).toArray], ⟨resC (i := 0) hw rfl rfl rfl, trivial⟩, rfl, hw.drop⟩
end Go.Proofs.YtimbobmmijgkiaaGreatDoor
end
/- The program's parser: Parse, which recovers what the parser throws. -/
section
open Go Mk
namespace Go.Proofs.YtimbobmmijgkiaaGreatDoor
set_option maxHeartbeats 4000000
attribute [local irreducible] Calls scanS hardwareP endP

/-- What Parse answers. -/
def parseS (s : ByteArray) : HwT × PosT × Int := if (scanS s).2.2 = 0 then (match hardwareP (scanS s).1 (endP s) with | .ok (H, _) => (H, ⟨0, 0⟩, 0) | .error (p, er) => (default, p, er)) else (default, (scanS s).2.1, (scanS s).2.2)
/-- A description in a variable that a function answers. -/
abbrev hwZ : List Value := [.string ⟨#[]⟩, .slice none 0 0, .slice none 0 0, .slice none 0 0, .slice none 0 0, .slice none 0 0]
section
variable {Γ : Gho} {S : List Res} {w : World} {b2 b3 b4 : Nat} {h0 : Array Value} {p0 : PosT} {e0 : Int}
def outB (b2 b3 b4 : Nat) (h0 : Array Value) (p0 : PosT) (e0 : Int) (S : List Res) : List Res := .blk b2 (.cells h0 35) :: .blk b3 (.cells (enc p0).toArray 25) :: .blk b4 (.cells #[.int .i64 e0] 26) :: S
theorem rec_ret (hw : Wd Γ S w) (args : Array Value) (hn : Nat.ble args.size 22 = true) :
    CallsD Tryz.prog 25 args .returning w fun e u' w' => e = .returned (.tuple #[]) ∧ u' = .returning ∧ Wd Γ S w' := by
  refine callsD_rec Tryz.func25 rfl hn rfl rfl ?_
  refine W_seq ?_
  refine W_region ?_
  refine lY (v := .nilIface) ?_ (hy := y_move rfl)
  refine lY (v := .bool false) ?_ (hy := y_neqNN Tryz.underlying20 rfl)
  refine L_nil ?_
  refine W_cond rfl (fun h => by cases h) (fun _ => ?_)
  refine W_skip ?_
  exact ⟨_, rfl, rfl, rfl, hw⟩
theorem rec_pan {p : PosT} {er : Int} (hz : h0.size = 6) (hw : Wd Γ (outB b2 b3 b4 h0 p0 e0 S) w) :
    CallsD Tryz.prog 25 #[.pointer (some ⟨b2, 0, none⟩), .pointer (some ⟨b3, 0, none⟩), .pointer (some ⟨b4, 0, none⟩)] (.panicking [failE p er]) w fun e u' w' =>
      e = .returned (.tuple #[]) ∧ settle u' = .returning ∧ Wd Γ (outB b2 b3 b4 hwZ.toArray p er S) w' := by
  refine callsD_rec Tryz.func25 rfl rfl rfl rfl ?_
  obtain ⟨c1, c2, c3, c4, c5, c6, rfl⟩ : ∃ c1 c2 c3 c4 c5 c6, h0 = #[c1, c2, c3, c4, c5, c6] := by
    obtain ⟨l⟩ := h0
    match l, hz with
    | [c1, c2, c3, c4, c5, c6], _ => exact ⟨c1, c2, c3, c4, c5, c6, rfl⟩
  unfold outB at hw
  have hv : (recM (.panicking [failE p er])).1 = .iface 57 (.agg #[.int .i64 p.Line, .int .i64 p.Col, .int .i64 er]) := rfl
  rw [hv]
  refine W_seq ?_
  refine W_region ?_
  refine lY (v := .iface 57 (.agg #[.int .i64 p.Line, .int .i64 p.Col, .int .i64 er])) ?_ (hy := y_move rfl)
  refine lY (v := .bool true) ?_ (hy := y_neqIN Tryz.underlying20 rfl)
  refine L_nil ?_
  refine W_cond rfl (fun _ => ?_) (fun h => by cases h)
  refine W_seq ?_
  refine W_region ?_
  refine lY (v := .iface 57 (.agg #[.int .i64 p.Line, .int .i64 p.Col, .int .i64 er])) ?_ (hy := y_move rfl)
  refine lY (v := .tuple #[.agg #[.int .i64 p.Line, .int .i64 p.Col, .int .i64 er], .bool true]) ?_ (hy := y_assertOk Tryz.underlying57 rfl)
  repeat (first | refine byW ?_ | (refine byV ?_; intro w hw))
  refine lAlloc ?_
  intro b5 w hw
  repeat (first | refine byW ?_ | (refine byV ?_; intro w hw))
  refine lStore ?_
  intro w hw
  have hw : Wd Γ (.blk b5 (.cells #[.int .i64 p.Line, .int .i64 p.Col, .int .i64 er] 57) :: .blk b2 (.cells #[c1, c2, c3, c4, c5, c6] 35) :: .blk b3 (.cells (enc p0).toArray 25) :: .blk b4 (.cells #[.int .i64 e0] 26) :: S) w := hw
  repeat (first | refine byW ?_ | (refine byV ?_; intro w hw))
  refine W_cond rfl (fun h => by cases h) (fun _ => ?_)
  repeat (first | refine byW ?_ | (refine byV ?_; intro w hw))
  refine W_mixed [] [fun _ => [.blk b5 _], fun _ => [.blk b2 _], fun _ => [.blk b3 _], fun _ => .blk b4 _ :: S] [[],[],[],[],[],[1],[2],[3]] [[],[],[0],[],[0],[1],[2],[3]] [[],[],[],[]] (by simpa [List.range, List.range.loop, ML] using hw) ?_
  repeat (first | refine mY ?_ | refine mP ?_ | refine mPg ?_)
  refine mStoreC (c := 1) ?_
  refine mStoreC (c := 2) ?_
  refine mStoreC (c := 3) ?_
  refine mEnd0 ?_
  intro w hw
  have hw : Wd Γ ((.blk b5 (.cells #[.int .i64 p.Line, .int .i64 p.Col, .int .i64 er] 57) :: outB b2 b3 b4 hwZ.toArray p er S) ++ []) w := hw
  rw [List.append_nil] at hw
  exact ⟨_, rfl, rfl, rfl, hw.drop⟩

end
section
variable {Γ : Gho} {S : List Res} {w : World}
set_option maxRecDepth 8000 in
theorem Parse_any (s : ByteArray) (hs : s.size ≤ maxS0) (hw : Wd Γ S w) :
    Calls Tryz.prog 9 #[.string s] w fun r w' => ∃ Γ' u, Γ.le Γ' ∧ r = .returned (.tuple #[u, .agg (enc (parseS s).2.1).toArray, .int .i64 (parseS s).2.2]) ∧ HwOut Γ' (parseS s).1 S u w' := by
  refine calls_of_WX Tryz.func9 rfl rfl ?_
  refine WX_seq (WX_of_W ?_)
  repeat (first | refine byW ?_ | (refine byV ?_; intro w hw))
  refine lAlloc ?_
  intro b2 w hw
  refine lAlloc ?_
  intro b3 w hw
  refine lAlloc ?_
  intro b4 w hw
  refine L_nil ?_
  have hw : Wd Γ (.blk b4 (.cells #[.int .i64 0] 26) :: .blk b3 (.cells (enc (default : PosT)).toArray 25) :: .blk b2 (.cells hwZ.toArray 35) :: S) w := hw
  have hw : Wd Γ (outB b2 b3 b4 hwZ.toArray default 0 S) w := hw.ps [1, 2]
  refine WX_seq (WX_of_W ?_)
  repeat (first | refine byW ?_ | (refine byV ?_; intro w hw))
  refine lCall ?_
  refine (Scan_any Γ _ w s hs hw).mono ?_
  rintro r w ⟨v, rfl, hw⟩
  refine ⟨_, rfl, ?_⟩
  repeat (first | refine byW ?_ | (refine byV ?_; intro w hw))
  unfold outB at hw
  refine lStore (i := 2) ?_
  intro w hw
  refine lStore (i := 3) ?_
  intro w hw
  refine L_nil ?_
  have hw : Wd Γ (.own v 53 5 ((scanS s).1.map enc) :: outB b2 b3 b4 hwZ.toArray (scanS s).2.1 (scanS s).2.2 S) w := hw
  unfold outB at hw
  refine WX_seq (WX_seq (WX_of_W ?_))
  repeat (first | refine byW ?_ | (refine byV ?_; intro w hw))
  refine WX_cond rfl (fun h => ?_) (fun h => ?_)
  · have h : ¬ (scanS s).2.2 = 0 := by simpa using h
    have hP : parseS s = (default, (scanS s).2.1, (scanS s).2.2) := by unfold parseS; rw [if_neg h]
    rw [hP]
    refine WX_of_W ?_
    repeat (first | refine byW ?_ | (refine byV ?_; intro w hw))
    refine W_mixed [] [fun _ => [.own v _ _ _], fun _ => [.blk b2 _], fun _ => [.blk b3 _], fun _ => .blk b4 _ :: S] [[],[],[],[1],[2],[3]] [[],[2],[3],[1],[2],[3]] [[],[],[],[]] (by simpa [List.range, List.range.loop, ML] using hw) ?_
    repeat (first | refine mY ?_ | refine mP ?_ | refine mPg ?_)
    refine mStoreC (c := 1) ?_
    refine mStoreC (c := 2) ?_
    refine mStoreC (c := 3) ?_
    refine mEnd0 ?_
    intro w hw
    have hw : Wd Γ ((.own v 53 5 ((scanS s).1.map enc) :: outB b2 b3 b4 hwZ.toArray (scanS s).2.1 (scanS s).2.2 S) ++ []) w := hw
    rw [List.append_nil] at hw
    repeat (first | refine byW ?_ | (refine byV ?_; intro w hw))
    have hw := hw.drop
    unfold outB at hw
    intro a ha hsz
    exact ⟨_, results_resL (vs := [.agg hwZ.toArray, .agg (enc (scanS s).2.1).toArray, .int .i64 (scanS s).2.2]) (by decide) (by rw [ha]; exact ⟨resC (i := 0) hw rfl rfl rfl, resC (i := 1) hw rfl rfl rfl, resS (i := 2) hw rfl rfl rfl, trivial⟩), Γ, _, Gho.le.refl _, rfl, _, _, _, _, _, [], rfl, by simp, rfl, Wd.addNil (Wd.addNil (Wd.addNil (Wd.addNil (Wd.addNil (hw.ds [0, 0, 0])))))⟩
  have h : (scanS s).2.2 = 0 := by simpa using h
  have hP : parseS s = (match hardwareP (scanS s).1 (endP s) with | .ok (H, _) => (H, ⟨0, 0⟩, 0) | .error (p, er) => (default, p, er)) := by unfold parseS; rw [if_pos h]
  rw [hP]
  clear hP
  generalize (scanS s).2.1 = p1 at *
  generalize (scanS s).2.2 = e1 at *
  have hlen := scanS_len (s := s)
  generalize (scanS s).1 = toks at *
  obtain ⟨at', n, c, rfl, hn, -, -⟩ := hw.own_shape (i := 0) rfl
  simp only [List.length_map] at hn
  obtain ⟨Γ1, hle, ht, hw⟩ := hw.freeze
  refine WX_of_W (W_skip ?_)
  refine WX_seq (WX_regionX ?_)
  refine LD_step ((y_makeFuncL (first := []) (cap := [.tmp 2, .tmp 3, .tmp 4]) (f1 := []) (c1 := [.pointer (some ⟨b2, 0, none⟩), .pointer (some ⟨b3, 0, none⟩), .pointer (some ⟨b4, 0, none⟩)]) EvL.nil (EvL.cons rfl (EvL.cons rfl (EvL.cons rfl EvL.nil)))).step ?_)
  refine LD_deferF ?_
  refine LD_nil ?_
  refine WX_seq (WX_region ?_)
  repeat (first | refine byW ?_ | (refine byV ?_; intro w hw))
  refine lCall ?_
  refine (endOf_any s hs w hw).mono ?_
  rintro r w ⟨rfl, hw⟩
  refine ⟨_, rfl, ?_⟩
  repeat (first | refine byW ?_ | (refine byV ?_; intro w hw))
  refine lBox ?_
  intro bp w hw
  repeat (first | refine byW ?_ | (refine byV ?_; intro w hw))
  have hw : Wd Γ1 (parB bp at' n c 0 (endP s) :: outB b2 b3 b4 hwZ.toArray p1 e1 S) w := hw
  refine WX_seq (WX_region ?_)
  repeat (first | refine byW ?_ | (refine byV ?_; intro w hw))
  refine L_callE ?_
  refine (hardware_any ht (by omega) hw).mono ?_
  rintro r w ⟨Γ2, hle2, hr⟩
  cases hH : hardwareP toks (endP s) with
  | error q =>
    obtain ⟨p, er⟩ := q
    rw [hH] at hr
    obtain ⟨rfl, hw⟩ := hr
    intro a ha hsz
    refine leaves_cons (by simp) rfl ((rec_pan rfl hw).mono ?_)
    rintro e u' w ⟨rfl, hu, hw⟩
    show Leaves _ _ _ _ [] (settle u') w
    rw [hu]
    unfold outB at hw
    exact ⟨_, results_resL (vs := [.agg hwZ.toArray, .agg (enc p).toArray, .int .i64 er]) (by decide) (by rw [ha]; exact ⟨resC (i := 0) hw rfl rfl rfl, resC (i := 1) hw rfl rfl rfl, resS (i := 2) hw rfl rfl rfl, trivial⟩), Γ2, _, hle.trans hle2, rfl, _, _, _, _, _, [], rfl, by simp, rfl, Wd.addNil (Wd.addNil (Wd.addNil (Wd.addNil (Wd.addNil (hw.ds [0, 0, 0])))))⟩
  | ok q =>
    obtain ⟨H, k⟩ := q
    rw [hH] at hr
    obtain ⟨u, rfl, v1, v2, v3, v4, v5, cs, hcs, hok, rfl, hw⟩ := hr
    unfold outB at hw
    obtain ⟨a1, n1, c1, rfl, -, -, -⟩ := hw.own_shape (i := 0) rfl
    obtain ⟨a2, n2, c2, rfl, -, -, -⟩ := hw.own_shape (i := 1) rfl
    obtain ⟨a3, n3, c3, rfl, -, -, -⟩ := hw.own_shape (i := 2) rfl
    obtain ⟨a4, n4, c4, rfl, -, -, -⟩ := hw.own_shape (i := 3) rfl
    obtain ⟨a5, n5, c5, rfl, -, -, -⟩ := hw.own_shape (i := 4) rfl
    show L _ _ _ _ _ _ _
    repeat (first | refine byW ?_ | (refine byV ?_; intro w hw))
    refine lStore (i := 5) ?_
    intro w hw
    refine lStore (i := 6) ?_
    intro w hw
    refine lStore (i := 7) ?_
    intro w hw
    have hw : Wd Γ2 (.own (.slice a1 n1 c1) 77 4 (H.Cores.map enc) :: .own (.slice a2 n2 c2) 79 5 (cs.map cC) :: .own (.slice a3 n3 c3) 82 3 (H.Links.map enc) :: .own (.slice a4 n4 c4) 47 5 (H.Mems.map enc) :: .own (.slice a5 n5 c5) 84 5 (H.Devs.map enc) :: outB b2 b3 b4 #[.string H.Name, .slice a1 n1 c1, .slice a2 n2 c2, .slice a3 n3 c3, .slice a4 n4 c4, .slice a5 n5 c5] default 0 S) w := hw
    refine L_nil ?_
    refine WX_ret ?_
    intro a ha hsz
    refine leaves_cons (by simp) rfl ((rec_ret hw _ rfl).mono ?_)
    rintro e u' w ⟨rfl, rfl, hw⟩
    show Leaves _ _ _ _ [] .returning w
    unfold outB at hw
    exact ⟨_, results_resL (vs := [.agg #[.string H.Name, .slice a1 n1 c1, .slice a2 n2 c2, .slice a3 n3 c3, .slice a4 n4 c4, .slice a5 n5 c5], .agg (enc (default : PosT)).toArray, .int .i64 0]) (by decide) (by rw [ha]; exact ⟨resC (i := 5) hw rfl rfl rfl, resC (i := 6) hw rfl rfl rfl, resS (i := 7) hw rfl rfl rfl, trivial⟩), Γ2, _, hle.trans hle2, rfl, _, _, _, _, _, cs, hcs, hok, rfl, hw.ds [5, 5, 5]⟩
end
end Go.Proofs.YtimbobmmijgkiaaGreatDoor
end
/- The tokens of a text, written one behind another, are read as the same description (no program in sight). -/
section
open Go Mk
namespace Go.Proofs.YtimbobmmijgkiaaGreatDoor
set_option maxHeartbeats 1000000
attribute [local irreducible] Calls

theorem parse_lay {s : ByteArray} (hs : s.size ≤ 3000) (h0 : (scanS s).2.2 = 0) : (parseS (mkB (layT (scanS s).1))).1 = (parseS s).1 ∧ (parseS (mkB (layT (scanS s).1))).2.2 = (parseS s).2.2 := by
  obtain ⟨-, -, toks, h1, h2⟩ := scan_lay hs
  unfold parseS
  rw [h2, if_pos h0]
  dsimp only
  rw [if_pos rfl]
  rcases (hardware_sm (e := endP (mkB (layT (scanS s).1))) (e' := endP s) h1).cases with ⟨p, q, er, k1, k2⟩ | ⟨H, k, k1, k2⟩
  · rw [k1, k2]; exact ⟨rfl, rfl⟩
  · rw [k1, k2]; exact ⟨rfl, rfl⟩
end Go.Proofs.YtimbobmmijgkiaaGreatDoor
end
