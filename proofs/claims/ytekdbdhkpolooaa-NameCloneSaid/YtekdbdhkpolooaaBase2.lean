/- What single operations yield that leave the world alone. -/
import Derived.Test.YtekdbdhkpolooaaBase1
import Derived.IntWalk
open Go
namespace Mk

/-- The operation yields v, the world as it was. -/
def Yields (P : Program) (o : Oper) (ρ : Fr) (w : World) (v : Value) : Prop := (execOp (ev ρ) o).run P w = .ok (.value v) w

theorem Yields.step {P : Program} {o : Oper} {ρ : Fr} {w : World} {v : Value} {K : Value → World → Prop} (h : Yields P o ρ w v) (hk : K v w) : Step P o ρ w K := by
  unfold Step; rw [h]; exact hk

section
variable {P : Program} {n : Nat} {Q : Exit → Fr → World → Prop} {ρ : Fr} {w : World} {ops : Array Oper} {o : Oper} {rest : List Oper}

theorem L_y {v : Value} (hg : o.guard = none) (hd : okDst n o.dst = true) (hy : Yields P o ρ w v) (h : L P n ops Q rest (putO ρ o.dst v) w) : L P n ops Q (o :: rest) ρ w :=
  L_step hg hd (hy.step h)
theorem L_gy {j dj : Nat} {want c : Bool} {v : Value} (hg : o.guard = some (j, want)) (hj : (ops[j]?).bind (·.dst) = some dj) (hjn : okDst n (some dj) = true)
    (hc : GuardIs (ρ dj) want c) (hd : okDst n o.dst = true) (hv : c = true → Yields P o ρ w v) (h : L P n ops Q rest (putO ρ o.dst (gv c v)) w) : L P n ops Q (o :: rest) ρ w :=
  L_guard hg hj hjn hc hd (fun hc => (hv hc).step ⟨rfl, rfl⟩) h

attribute [local semireducible] gv Step
theorem gvT {c : Bool} {u v : Value} (hc : c = true) (h : u = gv c v) : u = v := by rw [h, hc]; rfl
theorem gvA {c b : Bool} {u v : Value} (hc : c = true) (h : u = gv (c && b) v) : u = gv b v := by rw [h, hc]; rfl
theorem andL {a b : Bool} (h : (a && b) = true) : a = true := by cases a <;> simp_all
theorem andR {a b : Bool} (h : (a && b) = true) : b = true := by cases a <;> simp_all
theorem notT {b : Bool} (h : (!b) = true) : b = false := by cases b <;> simp_all

theorem wrap_i64 {a : Int} (h1 : -9223372036854775808 ≤ a) (h2 : a ≤ 9223372036854775807) : IntKind.i64.wrap a = a := IntWalk.i64_in _ (by omega)

theorem toList_inj {a b : ByteArray} : a.toList = b.toList ↔ a = b := by
  constructor
  · intro h
    rw [ByteArray.toList_eq, ByteArray.toList_eq] at h
    obtain ⟨⟨x⟩⟩ := a; obtain ⟨⟨y⟩⟩ := b
    simp at h; rw [h]
  · intro h; rw [h]
theorem beq_toL {a b : ByteArray} : (a.toList == b.toList) = decide (a = b) := by
  by_cases h : a = b
  · subst h; simp
  · have h2 : ¬ a.toList = b.toList := fun hh => h (toList_inj.1 hh)
    simp [h, h2]

variable {d : Option Tmp} {T U ty : TypeId} {pos : String} {es : Array Edge} {g : Option (Nat × Bool)} {x y z : Operand}

theorem y_move {v : Value} (h : ev ρ x = v) : Yields P ⟨d, .move x, ty, pos, es, g⟩ ρ w v := by subst h; rfl
theorem y_assign {v : Value} (h : ev ρ x = v) : Yields P ⟨d, .assign x, ty, pos, es, g⟩ ρ w v := by subst h; rfl

/-! integers -/
theorem y_lss {k : IntKind} {a b : Int} (hx : ev ρ x = .int k a) (hy : ev ρ y = .int k b) : Yields P ⟨d, .binOp .lss T x y U, ty, pos, es, g⟩ ρ w (.bool (decide (a < b))) := by
  unfold Yields; simp [execOp, go_sem, hx, hy]
theorem y_leq {k : IntKind} {a b : Int} (hx : ev ρ x = .int k a) (hy : ev ρ y = .int k b) : Yields P ⟨d, .binOp .leq T x y U, ty, pos, es, g⟩ ρ w (.bool (decide (a ≤ b))) := by
  unfold Yields; simp [execOp, go_sem, hx, hy]
theorem y_gtr {k : IntKind} {a b : Int} (hx : ev ρ x = .int k a) (hy : ev ρ y = .int k b) : Yields P ⟨d, .binOp .gtr T x y U, ty, pos, es, g⟩ ρ w (.bool (decide (b < a))) := by
  unfold Yields; simp [execOp, go_sem, hx, hy]
theorem y_geq {k : IntKind} {a b : Int} (hx : ev ρ x = .int k a) (hy : ev ρ y = .int k b) : Yields P ⟨d, .binOp .geq T x y U, ty, pos, es, g⟩ ρ w (.bool (decide (b ≤ a))) := by
  unfold Yields; simp [execOp, go_sem, hx, hy]
theorem y_eql {k : IntKind} {a b : Int} (hx : ev ρ x = .int k a) (hy : ev ρ y = .int k b) : Yields P ⟨d, .binOp .eql T x y U, ty, pos, es, g⟩ ρ w (.bool (decide (a = b))) := by
  unfold Yields; simp [execOp, go_sem, hx, hy]; rfl
theorem y_neq {k : IntKind} {a b : Int} (hx : ev ρ x = .int k a) (hy : ev ρ y = .int k b) : Yields P ⟨d, .binOp .neq T x y U, ty, pos, es, g⟩ ρ w (.bool (decide (a ≠ b))) := by
  unfold Yields; simp [execOp, go_sem, hx, hy]; simp [bne]; rfl
theorem y_add {k : IntKind} {a b : Int} (hx : ev ρ x = .int k a) (hy : ev ρ y = .int k b) : Yields P ⟨d, .binOp .add T x y U, ty, pos, es, g⟩ ρ w (.int k (k.wrap (a + b))) := by
  unfold Yields; simp [execOp, go_sem, hx, hy]
theorem y_sub {k : IntKind} {a b : Int} (hx : ev ρ x = .int k a) (hy : ev ρ y = .int k b) : Yields P ⟨d, .binOp .sub T x y U, ty, pos, es, g⟩ ρ w (.int k (k.wrap (a - b))) := by
  unfold Yields; simp [execOp, go_sem, hx, hy]
theorem y_mul {k : IntKind} {a b : Int} (hx : ev ρ x = .int k a) (hy : ev ρ y = .int k b) : Yields P ⟨d, .binOp .mul T x y U, ty, pos, es, g⟩ ρ w (.int k (k.wrap (a * b))) := by
  unfold Yields; simp [execOp, go_sem, hx, hy]
theorem y_add64 {a b : Int} (hx : ev ρ x = .int .i64 a) (hy : ev ρ y = .int .i64 b) (h1 : -9223372036854775808 ≤ a + b) (h2 : a + b ≤ 9223372036854775807) : Yields P ⟨d, .binOp .add T x y U, ty, pos, es, g⟩ ρ w (.int .i64 (a + b)) := by
  have := y_add (P := P) (w := w) (d := d) (T := T) (U := U) (ty := ty) (pos := pos) (es := es) (g := g) hx hy; rwa [wrap_i64 h1 h2] at this
theorem y_sub64 {a b : Int} (hx : ev ρ x = .int .i64 a) (hy : ev ρ y = .int .i64 b) (h1 : -9223372036854775808 ≤ a - b) (h2 : a - b ≤ 9223372036854775807) : Yields P ⟨d, .binOp .sub T x y U, ty, pos, es, g⟩ ρ w (.int .i64 (a - b)) := by
  have := y_sub (P := P) (w := w) (d := d) (T := T) (U := U) (ty := ty) (pos := pos) (es := es) (g := g) hx hy; rwa [wrap_i64 h1 h2] at this
theorem y_mul64 {a b : Int} (hx : ev ρ x = .int .i64 a) (hy : ev ρ y = .int .i64 b) (h1 : -9223372036854775808 ≤ a * b) (h2 : a * b ≤ 9223372036854775807) : Yields P ⟨d, .binOp .mul T x y U, ty, pos, es, g⟩ ρ w (.int .i64 (a * b)) := by
  have := y_mul (P := P) (w := w) (d := d) (T := T) (U := U) (ty := ty) (pos := pos) (es := es) (g := g) hx hy; rwa [wrap_i64 h1 h2] at this
theorem y_quo {k : IntKind} {a b : Int} (hx : ev ρ x = .int k a) (hy : ev ρ y = .int k b) (hb : b ≠ 0) : Yields P ⟨d, .binOp .quo T x y U, ty, pos, es, g⟩ ρ w (.int k (k.wrap (a.tdiv b))) := by
  unfold Yields; simp [execOp, go_sem, hx, hy, hb]
theorem y_rem {k : IntKind} {a b : Int} (hx : ev ρ x = .int k a) (hy : ev ρ y = .int k b) (hb : b ≠ 0) : Yields P ⟨d, .binOp .rem T x y U, ty, pos, es, g⟩ ρ w (.int k (a.tmod b)) := by
  unfold Yields; simp [execOp, go_sem, hx, hy, hb]

/-! bools -/
theorem y_not {b : Bool} (hx : ev ρ x = .bool b) : Yields P ⟨d, .unOp .not T x, ty, pos, es, g⟩ ρ w (.bool (!b)) := by
  unfold Yields; simp [execOp, go_sem, hx]
theorem y_eqlb {a b : Bool} (hT : P.underlying T = some .bool) (hx : ev ρ x = .bool a) (hy : ev ρ y = .bool b) : Yields P ⟨d, .binOp .eql T x y U, ty, pos, es, g⟩ ρ w (.bool (a == b)) := by
  unfold Yields; simp [execOp, go_sem, hx, hy, hT]
theorem y_pick_and {b u : Bool} (hx : ev ρ x = .bool b) (hy : ev ρ y = gv b (.bool u)) (hz : ev ρ z = .bool false) : Yields P ⟨d, .pick x y z, ty, pos, es, g⟩ ρ w (.bool (b && u)) := by
  unfold Yields; cases b <;> simp [execOp, go_sem, hx, hy, hz, gv]
theorem y_pick_or {b u : Bool} (hx : ev ρ x = .bool b) (hy : ev ρ y = .bool true) (hz : ev ρ z = gv (!b) (.bool u)) : Yields P ⟨d, .pick x y z, ty, pos, es, g⟩ ρ w (.bool (b || u)) := by
  unfold Yields; cases b <;> simp [execOp, go_sem, hx, hy, hz, gv]

theorem y_pickT {v : Value} (hx : ev ρ x = .bool true) (hy : ev ρ y = v) : Yields P ⟨d, .pick x y z, ty, pos, es, g⟩ ρ w v := by
  unfold Yields; simp [execOp, go_sem, hx, hy]
theorem y_pickF {v : Value} (hx : ev ρ x = .bool false) (hz : ev ρ z = v) : Yields P ⟨d, .pick x y z, ty, pos, es, g⟩ ρ w v := by
  unfold Yields; simp [execOp, go_sem, hx, hz]

/-! strings -/
theorem y_lens {s : ByteArray} (hx : ev ρ x = .string s) (hT : P.underlying T = some .string) : Yields P ⟨d, .call { callee := .builtin .len, args := #[x], argTypes := #[T] }, ty, pos, es, g⟩ ρ w (.int .i64 s.size) := by
  unfold Yields; simp [execOp, go_sem, hx, hT]
theorem y_lensl {a : Option Addr} {m c : Nat} {E : TypeId} (hx : ev ρ x = .slice a m c) (hT : P.underlying T = some (.slice E)) : Yields P ⟨d, .call { callee := .builtin .len, args := #[x], argTypes := #[T] }, ty, pos, es, g⟩ ρ w (.int .i64 m) := by
  have he : P.underlying T = some (.slice (P.elem T)) := by simp [Program.elem, hT]
  have h1 := run_len_slice (P := P) (w := w) T ty a m c he
  unfold Yields; simp [execOp, go_sem, hx]; simp [h1, goInt]
theorem y_index {s : ByteArray} {i : Int} {k : IntKind} (hT : P.underlying T = some .string) (hx : ev ρ x = .string s) (hy : ev ρ y = .int k i) (h0 : 0 ≤ i) (h1 : i < s.size) : Yields P ⟨d, .index T x y, ty, pos, es, g⟩ ρ w (.int .u8 (s.data.toList.getD i.toNat 0).toNat) := by
  unfold Yields; simp [execOp, go_sem, hx, hy, h0, h1, hT]; rfl
theorem y_eqls {a b : ByteArray} (hx : ev ρ x = .string a) (hy : ev ρ y = .string b) : Yields P ⟨d, .binOp .eql T x y U, ty, pos, es, g⟩ ρ w (.bool (decide (a = b))) := by
  unfold Yields; simp [execOp, go_sem, hx, hy, beq_toL]
theorem y_neqs {a b : ByteArray} (hx : ev ρ x = .string a) (hy : ev ρ y = .string b) : Yields P ⟨d, .binOp .neq T x y U, ty, pos, es, g⟩ ρ w (.bool (decide (a ≠ b))) := by
  unfold Yields; simp [execOp, go_sem, hx, hy, beq_toL]

/-! parts -/
theorem y_extract {vs : Array Value} {i : Nat} {v : Value} (hx : ev ρ x = .tuple vs) (hi : vs[i]? = some v) : Yields P ⟨d, .extract x i, ty, pos, es, g⟩ ρ w v := by
  unfold Yields; simp [execOp, go_sem, hx, hi, Instr.extract]
theorem y_nil {a : Addr} (hx : ev ρ x = .pointer (some a)) : Yields P ⟨d, .nilCheck x, ty, pos, es, g⟩ ρ w (.pointer (some a)) := by
  unfold Yields; simp [execOp, go_sem, hx]
end
attribute [irreducible] Yields
end Mk
