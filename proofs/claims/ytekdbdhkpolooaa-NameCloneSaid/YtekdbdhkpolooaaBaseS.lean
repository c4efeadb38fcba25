/- Strings compared, cut and joined; conversions, bits, shifts, the least and the greatest. -/
import Derived.Test.YtekdbdhkpolooaaBase9
import Derived.Laws.Cover3
import Derived.Laws.Pointers
open Go
namespace Mk

/-- Strings in their order. -/
def bLt (a b : ByteArray) : Bool := Op.bytesLess a.data.toList b.data.toList
theorem bytesLess_irrefl : ∀ l : List UInt8, Op.bytesLess l l = false
  | [] => rfl
  | a :: l => by simp [Op.bytesLess, bytesLess_irrefl l]
theorem bytesLess_trans : ∀ a b c : List UInt8, Op.bytesLess a b = true → Op.bytesLess b c = true → Op.bytesLess a c = true
  | _, _, [], _, h => by simp [Op.bytesLess] at h
  | [], b, c :: cs, _, _ => rfl
  | a :: as, [], _ :: _, h, _ => by simp [Op.bytesLess] at h
  | a :: as, b :: bs, c :: cs, h, k => by
    simp only [Op.bytesLess, Bool.or_eq_true, Bool.and_eq_true, decide_eq_true_eq, beq_iff_eq] at *
    rcases h with h | ⟨rfl, h⟩
    · rcases k with k | ⟨rfl, _⟩
      · exact .inl (UInt8.lt_trans h k)
      · exact .inl h
    · rcases k with k | ⟨rfl, k⟩
      · exact .inl k
      · exact .inr ⟨rfl, bytesLess_trans _ _ _ h k⟩
theorem bytesLess_total : ∀ a b : List UInt8, Op.bytesLess a b = false → Op.bytesLess b a = false → a = b
  | [], [], _, _ => rfl
  | [], b :: bs, h, _ => by simp [Op.bytesLess] at h
  | a :: as, [], _, h => by simp [Op.bytesLess] at h
  | a :: as, b :: bs, h, k => by
    simp only [Op.bytesLess, Bool.or_eq_false_iff, Bool.and_eq_false_iff, decide_eq_false_iff_not, beq_eq_false_iff_ne] at h k
    have hab : a = b := by
      rcases UInt8.lt_or_lt_of_ne (a := a) (b := b) with h0
      by_cases e : a = b
      · exact e
      · rcases UInt8.lt_or_lt_of_ne e with h1 | h1
        · exact absurd h1 h.1
        · exact absurd h1 k.1
    subst hab
    rw [bytesLess_total as bs (h.2.resolve_left (by simp)) (k.2.resolve_left (by simp))]
theorem bLt_irrefl (a : ByteArray) : bLt a a = false := bytesLess_irrefl _
theorem bLt_trans {a b c : ByteArray} (h : bLt a b = true) (k : bLt b c = true) : bLt a c = true := bytesLess_trans _ _ _ h k
theorem bLt_total {a b : ByteArray} (h : bLt a b = false) (k : bLt b a = false) : a = b := by
  have := bytesLess_total _ _ h k
  cases a with | mk a => cases b with | mk b => congr 1; exact Array.toList_inj.1 this
theorem bLt_asymm {a b : ByteArray} (h : bLt a b = true) : bLt b a = false := by
  cases hb : bLt b a with
  | false => rfl
  | true => have := bLt_trans h hb; rw [bLt_irrefl] at this; cases this
theorem bLt_toL (a b : ByteArray) : Op.bytesLess a.toList b.toList = bLt a b := by rw [ByteArray.toList_eq, ByteArray.toList_eq]; rfl
theorem bLt_or_eq (a b : ByteArray) : (bLt a b || decide (a = b)) = !bLt b a := by
  cases h : bLt a b with
  | true => rw [bLt_asymm h]; rfl
  | false =>
    cases k : bLt b a with
    | true => simp only [Bool.false_or, Bool.not_true, decide_eq_false_iff_not]; intro e; subst e; rw [bLt_irrefl] at k; cases k
    | false => simp [bLt_total h k]

section
variable {P : Program} {Γ : Gho} {S : List Res} {w : World} {ρ : Fr}
variable {d : Option Tmp} {T U ty : TypeId} {pos : String} {es : Array Edge} {g : Option (Nat × Bool)} {x y z : Operand}
attribute [local semireducible] Yields
theorem y_lssS {a b : ByteArray} (hx : ev ρ x = .string a) (hy : ev ρ y = .string b) : Yields P ⟨d, .binOp .lss T x y U, ty, pos, es, g⟩ ρ w (.bool (bLt a b)) := by
  unfold Yields; simp [execOp, go_sem, hx, hy, binOp, Op.stringOp, bLt_toL]
theorem y_leqS {a b : ByteArray} (hx : ev ρ x = .string a) (hy : ev ρ y = .string b) : Yields P ⟨d, .binOp .leq T x y U, ty, pos, es, g⟩ ρ w (.bool (!bLt b a)) := by
  unfold Yields; simp [execOp, go_sem, hx, hy, binOp, Op.stringOp, bLt_toL, beq_toL, bLt_or_eq]
theorem y_gtrS {a b : ByteArray} (hx : ev ρ x = .string a) (hy : ev ρ y = .string b) : Yields P ⟨d, .binOp .gtr T x y U, ty, pos, es, g⟩ ρ w (.bool (bLt b a)) := by
  have := bLt_or_eq a b
  unfold Yields; simp [execOp, go_sem, hx, hy, binOp, Op.stringOp, bLt_toL, beq_toL]
  rw [← Bool.not_or, this]; simp
theorem y_geqS {a b : ByteArray} (hx : ev ρ x = .string a) (hy : ev ρ y = .string b) : Yields P ⟨d, .binOp .geq T x y U, ty, pos, es, g⟩ ρ w (.bool (!bLt a b)) := by
  unfold Yields; simp [execOp, go_sem, hx, hy, binOp, Op.stringOp, bLt_toL]
theorem y_addS {a b : ByteArray} (hx : ev ρ x = .string a) (hy : ev ρ y = .string b) (h : (a.size : Int) + b.size ≤ 9223372036854775807) : Yields P ⟨d, .binOp .add T x y U, ty, pos, es, g⟩ ρ w (.string (a ++ b)) := by
  have h' : ¬ ((a.size : Int) + (b.size : Int) > IntKind.i64.max) := by
    have : IntKind.i64.max = 9223372036854775807 := by decide
    omega
  unfold Yields; simp [execOp, go_sem, hx, hy, binOp, Op.stringOp]
  exact h

/-- A piece of a string. -/
def bSub (s : ByteArray) (l h : Nat) : ByteArray := s.extract l h
theorem y_sliceSLH {s : ByteArray} {lo hi : Operand} {k1 k2 : IntKind} {l h : Int} [hT : TStr P T] (hx : ev ρ x = .string s) (hl : ev ρ lo = .int k1 l) (hh : ev ρ hi = .int k2 h) (h0 : 0 ≤ l) (h1 : l ≤ h) (h2 : h ≤ s.size) :
    Yields P ⟨d, .slice T x (some lo) (some hi) none, ty, pos, es, g⟩ ρ w (.string (bSub s l.toNat h.toNat)) := by
  have e1 : (0 ≤ h ∧ h ≤ (s.size : Int)) := ⟨by omega, h2⟩
  have e2 : (0 ≤ l ∧ l ≤ (h.toNat : Int)) := ⟨h0, by omega⟩
  unfold Yields; simp [execOp, go_sem, hx, hl, hh, run_sliceAt_string (P := P) (w := w) T _ _ _ _ hT.h, Instr.slice, run_underlying hT.h, Instr.sliceBounds, Instr.sliceBound, asIntOf, e1, e2, bSub]
  intro hh'; omega
theorem y_sliceSL {s : ByteArray} {lo : Operand} {k1 : IntKind} {l : Int} [hT : TStr P T] (hx : ev ρ x = .string s) (hl : ev ρ lo = .int k1 l) (h0 : 0 ≤ l) (h1 : l ≤ s.size) :
    Yields P ⟨d, .slice T x (some lo) none none, ty, pos, es, g⟩ ρ w (.string (bSub s l.toNat s.size)) := by
  unfold Yields; simp [execOp, go_sem, hx, hl, run_sliceAt_string (P := P) (w := w) T _ _ _ _ hT.h, Instr.slice, run_underlying hT.h, Instr.sliceBounds, Instr.sliceBound, asIntOf, h0, h1, bSub]
theorem y_sliceSH {s : ByteArray} {hi : Operand} {k2 : IntKind} {h : Int} [hT : TStr P T] (hx : ev ρ x = .string s) (hh : ev ρ hi = .int k2 h) (h1 : 0 ≤ h) (h2 : h ≤ s.size) :
    Yields P ⟨d, .slice T x none (some hi) none, ty, pos, es, g⟩ ρ w (.string (bSub s 0 h.toNat)) := by
  unfold Yields; simp [execOp, go_sem, hx, hh, run_sliceAt_string (P := P) (w := w) T _ _ _ _ hT.h, Instr.slice, run_underlying hT.h, Instr.sliceBounds, Instr.sliceBound, asIntOf, h1, h2, bSub]

/-! integers -/
theorem y_convI {k1 k2 : IntKind} {a : Int} [h1 : TInt P T k1] [h2 : TInt P U k2] (hx : ev ρ x = .int k1 a) : Yields P ⟨d, .convert T U x, ty, pos, es, g⟩ ρ w (.int k2 (k2.wrap a)) := by
  have hk : P.intKind U = k2 := by simp [Program.intKind, h2.h]
  have := run_convert_int (P := P) (w := w) T U k1 a (by rw [h1.h]; rfl) (by rw [hk]; exact h2.h)
  rw [hk] at this
  unfold Yields; simp only [execOp, hx, Sem.run_bind, this, Result.andThen_ok]; rfl
theorem y_neg64 {a : Int} (hx : ev ρ x = .int .i64 a) (h1 : -9223372036854775807 ≤ a) (h2 : a ≤ 9223372036854775808) : Yields P ⟨d, .unOp .neg T x, ty, pos, es, g⟩ ρ w (.int .i64 (-a)) := by
  have := wrap_i64 (a := 0 - a) (by omega) (by omega)
  unfold Yields; simp [execOp, go_sem, hx, Op.unary, Op.intArith] at this ⊢
  simpa using this
theorem y_shl {k k2 : IntKind} {a b : Int} (hx : ev ρ x = .int k a) (hy : ev ρ y = .int k2 b) (h0 : 0 ≤ b) : Yields P ⟨d, .binOp .shl T x y U, ty, pos, es, g⟩ ρ w (.int k (k.wrap (a * 2 ^ (min b.toNat k.bits)))) := by
  unfold Yields; simp [execOp, go_sem, hx, hy, Op.shift, show ¬ b < 0 from by omega]
theorem y_shr {k k2 : IntKind} {a b : Int} (hx : ev ρ x = .int k a) (hy : ev ρ y = .int k2 b) (h0 : 0 ≤ b) : Yields P ⟨d, .binOp .shr T x y U, ty, pos, es, g⟩ ρ w (.int k (a.fdiv (2 ^ (min b.toNat k.bits)))) := by
  unfold Yields; simp [execOp, go_sem, hx, hy, Op.shift, show ¬ b < 0 from by omega]
def bitsZ (op : BinOp) (k : IntKind) (x y : Int) : Int :=
  let a := BitVec.ofInt k.bits x
  let b := BitVec.ofInt k.bits y
  k.wrap (match op with | .and => a &&& b | .or => a ||| b | .xor => a ^^^ b | _ => a &&& ~~~b).toNat
theorem y_and {k : IntKind} {a b : Int} (hx : ev ρ x = .int k a) (hy : ev ρ y = .int k b) : Yields P ⟨d, .binOp .and T x y U, ty, pos, es, g⟩ ρ w (.int k (bitsZ .and k a b)) := by
  unfold Yields; simp [execOp, go_sem, hx, hy, Op.intBits, bitsZ]
theorem y_or {k : IntKind} {a b : Int} (hx : ev ρ x = .int k a) (hy : ev ρ y = .int k b) : Yields P ⟨d, .binOp .or T x y U, ty, pos, es, g⟩ ρ w (.int k (bitsZ .or k a b)) := by
  unfold Yields; simp [execOp, go_sem, hx, hy, Op.intBits, bitsZ]
theorem y_xor {k : IntKind} {a b : Int} (hx : ev ρ x = .int k a) (hy : ev ρ y = .int k b) : Yields P ⟨d, .binOp .xor T x y U, ty, pos, es, g⟩ ρ w (.int k (bitsZ .xor k a b)) := by
  unfold Yields; simp [execOp, go_sem, hx, hy, Op.intBits, bitsZ]
theorem y_andNot {k : IntKind} {a b : Int} (hx : ev ρ x = .int k a) (hy : ev ρ y = .int k b) : Yields P ⟨d, .binOp .andNot T x y U, ty, pos, es, g⟩ ρ w (.int k (bitsZ .andNot k a b)) := by
  unfold Yields; simp [execOp, go_sem, hx, hy, Op.intBits, bitsZ]
theorem y_min2 {k : IntKind} {a b : Int} {tys : Array TypeId} (hx : ev ρ x = .int k a) (hy : ev ρ y = .int k b) : Yields P ⟨d, .call { callee := .builtin .min, args := #[x, y], argTypes := tys }, ty, pos, es, g⟩ ρ w (.int k (if b < a then b else a)) := by
  unfold Yields; simp [execOp, go_sem, resolve, invoke, builtin, hx, hy, Builtin.min_, Builtin.min2]
theorem y_max2 {k : IntKind} {a b : Int} {tys : Array TypeId} (hx : ev ρ x = .int k a) (hy : ev ρ y = .int k b) : Yields P ⟨d, .call { callee := .builtin .max, args := #[x, y], argTypes := tys }, ty, pos, es, g⟩ ρ w (.int k (if a < b then b else a)) := by
  unfold Yields; simp [execOp, go_sem, resolve, invoke, builtin, hx, hy, Builtin.max_, Builtin.max2]
/-! against nil -/
theorem run_eqn {T : TypeId} {a b : Value} {r : Bool} (h : (Op.equal T a b).run P w = .ok r w) : (Op.equal T a b).run P w = .ok r w := h
theorem y_eqnS {E sz by' : Nat} {zs : List Value} {a : Option Addr} {n c : Nat} [hT : TL P T E sz by' zs] (hx : ev ρ x = .slice a n c) (hy : ev ρ y = .slice none 0 0) : Yields P ⟨d, .binOp .eql T x y U, ty, pos, es, g⟩ ρ w (.bool a.isNone) := by
  have h := run_equal_slice_nil (P := P) w T E a n c hT.h
  unfold Yields; simp [execOp, go_sem, hx, hy, binOp, h]
theorem y_neqnS {E sz by' : Nat} {zs : List Value} {a : Option Addr} {n c : Nat} [hT : TL P T E sz by' zs] (hx : ev ρ x = .slice a n c) (hy : ev ρ y = .slice none 0 0) : Yields P ⟨d, .binOp .neq T x y U, ty, pos, es, g⟩ ρ w (.bool a.isSome) := by
  have h := run_equal_slice_nil (P := P) w T E a n c hT.h
  unfold Yields; simp [execOp, go_sem, hx, hy, binOp, h]
theorem y_eqnP {E : TypeId} {a : Option Addr} [hT : TPtr P T E] (hx : ev ρ x = .pointer a) (hy : ev ρ y = .pointer none) : Yields P ⟨d, .binOp .eql T x y U, ty, pos, es, g⟩ ρ w (.bool a.isNone) := by
  have hp : P.pointee T = E := by simp [Program.pointee, hT.h]
  have h := run_equal_pointer_nil (P := P) (w := w) T a (by rw [hp]; exact hT.h)
  unfold Yields; simp [execOp, go_sem, hx, hy, binOp, h]
theorem y_neqnP {E : TypeId} {a : Option Addr} [hT : TPtr P T E] (hx : ev ρ x = .pointer a) (hy : ev ρ y = .pointer none) : Yields P ⟨d, .binOp .neq T x y U, ty, pos, es, g⟩ ρ w (.bool a.isSome) := by
  have hp : P.pointee T = E := by simp [Program.pointee, hT.h]
  have h := run_equal_pointer_nil (P := P) (w := w) T a (by rw [hp]; exact hT.h)
  unfold Yields; simp [execOp, go_sem, hx, hy, binOp, h]
theorem y_eqnM {KT ET : TypeId} {m : Option Nat} [hT : TMap P T KT ET] (hx : ev ρ x = .map m) (hy : ev ρ y = .map none) : Yields P ⟨d, .binOp .eql T x y U, ty, pos, es, g⟩ ρ w (.bool m.isNone) := by
  have h := run_equal_map_nil (P := P) w T KT ET m hT.h
  unfold Yields; simp [execOp, go_sem, hx, hy, binOp, h]
end
end Mk
