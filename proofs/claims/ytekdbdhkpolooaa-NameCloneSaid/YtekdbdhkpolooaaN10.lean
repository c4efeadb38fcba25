/- Names made from numbers. -/
import Derived.Test.YtekdbdhkpolooaaN9
open Go Mk
namespace Go.Proofs.Ytekdbdhkpolooaa
set_option maxHeartbeats 400000
attribute [local irreducible] Calls

def digits : ByteArray := ⟨#[48, 49, 50, 51, 52, 53, 54, 55, 56, 57]⟩
def longQ (q r : Nat) : ByteArray := (⟨#[110, 97, 109, 101]⟩ ++ bSub digits q (q + 1)) ++ bSub digits r (r + 1)
def longS (k : Nat) : ByteArray := longQ (k / 10) (k % 10)
theorem bSub_size (s : ByteArray) (l h : Nat) : (bSub s l h).size = min h s.size - l := by simp [bSub]
theorem y_sl1 {P : Program} {d : Option Tmp} {T ty : TypeId} {pos : String} {es : Array Edge} {g : Option (Nat × Bool)} {x lo hi : Operand} {ρ : Fr} {w : World} [TStr P T] {s : ByteArray} {q : Nat} (h1 : ev ρ x = .string s) (h2 : ev ρ lo = .int .i64 (q : Nat)) (h3 : ev ρ hi = .int .i64 ((q : Nat) + 1)) (hs : q + 1 ≤ s.size) :
    Mk.Yields P ⟨d, .slice T x (some lo) (some hi) none, ty, pos, es, g⟩ ρ w (.string (bSub s q (q + 1))) := by
  have h4 := y_sliceSLH (P := P) (w := w) (T := T) (d := d) (ty := ty) (pos := pos) (es := es) (g := g) h1 h2 h3 (by omega) (by omega) (by omega)
  rw [show ((q : Nat) : Int).toNat = q from by omega, show (((q : Nat) : Int) + 1).toNat = q + 1 from by omega] at h4
  exact h4
theorem long_any (Γ : Gho) (S : List Res) (w : World) (k : Nat) (hk : k < 100) (hw : Wd Γ S w) :
    Calls Try.prog 10 #[.int .i64 k] w fun e w' => e = .returned (.string (longS k)) ∧ Wd Γ S w' := by
  obtain ⟨q, hq⟩ : ∃ q, q = k / 10 := ⟨_, rfl⟩
  obtain ⟨r, hr⟩ : ∃ r, r = k % 10 := ⟨_, rfl⟩
  have hL : longS k = longQ q r := by rw [hq, hr]; rfl
  rw [hL]
  have hq9 : q < 10 := by omega
  have hr9 : r < 10 := by omega
  have e1 : IntKind.i64.wrap ((k : Int).tdiv 10) = (q : Int) := by
    rw [Int.tdiv_eq_ediv_of_nonneg (by omega), wrap_i64 (by omega) (by omega)]; omega
  have e2 : (k : Int).tmod 10 = (r : Int) := by
    rw [Int.tmod_eq_emod_of_nonneg (by omega)]; omega
  have s1 : (⟨#[48, 49, 50, 51, 52, 53, 54, 55, 56, 57]⟩ : ByteArray).size = 10 := rfl
  have s1' : digits.size = 10 := rfl
  have s2 : (⟨#[110, 97, 109, 101]⟩ : ByteArray).size = 4 := rfl
  clear hq hr hL
  have hs1 : ((q : Nat) : Int) + 1 ≤ (digits.size : Int) := by rw [s1']; omega
  have hs2 : ((r : Nat) : Int) + 1 ≤ (digits.size : Int) := by rw [s1']; omega
  have q0 : (0 : Int) ≤ (q : Nat) := by omega
  have q1 : ((q : Nat) : Int) ≤ (q : Nat) + 1 := by omega
  have r0 : (0 : Int) ≤ (r : Nat) := by omega
  have r1 : ((r : Nat) : Int) ≤ (r : Nat) + 1 := by omega
  refine calls_of_W Try.func10 rfl rfl ?_
  repeat (first | (first | refine W_seq ?_ | refine W_block ?_ | refine W_region ?_ | refine W_skip ?_ | refine W_ret ?_ | refine W_exit ?_) | (first | refine L_nil ?_ | (apply L_plain; first | (apply L_go; refine lP ?_) | (apply L_mf; refine lMakeFunc ?_) | refine lY ?_) | (apply L_guarded; first | refine lGT ?_ | refine lGF ?_ | (apply L_go; refine lPG ?_) | refine lG ?_)))
  refine W_quiet (by kernel_rfl) (by kernel_rfl) hw ?_
  refine Q_plain (qY ?_)
  refine qY (v := .int .i64 (q : Nat)) ?_ rfl rfl (fun w hw => by rw [← e1]; exact y_quo rfl rfl (by omega))
  refine qY ?_
  refine qY (v := .int .i64 (q : Nat)) ?_ rfl rfl (fun w hw => by rw [← e1]; exact y_quo rfl rfl (by omega))
  refine qY ?_
  refine qY (v := .string (bSub digits q (q + 1))) ?_ rfl rfl (fun w hw => y_sl1 rfl rfl rfl (by rw [s1']; omega))
  refine qY (v := .string (⟨#[110, 97, 109, 101]⟩ ++ bSub digits q (q + 1))) ?_ rfl rfl (fun w hw => y_addS (a := ⟨#[110, 97, 109, 101]⟩) (b := bSub digits q (q + 1)) rfl rfl (by rw [s2, bSub_size]; have : digits.size = 10 := rfl; omega))
  refine qY ?_
  refine qY (v := .int .i64 (r : Nat)) ?_ rfl rfl (fun w hw => by rw [← e2]; exact y_rem rfl rfl (by omega))
  refine qY ?_
  refine qY (v := .int .i64 (r : Nat)) ?_ rfl rfl (fun w hw => by rw [← e2]; exact y_rem rfl rfl (by omega))
  refine qY ?_
  refine qY (v := .string (bSub digits r (r + 1))) ?_ rfl rfl (fun w hw => y_sl1 rfl rfl rfl (by rw [s1']; omega))
  refine qY (v := .string (longQ q r)) ?_ rfl rfl (fun w hw => y_addS (a := ⟨#[110, 97, 109, 101]⟩ ++ bSub digits q (q + 1)) (b := bSub digits r (r + 1)) rfl rfl (by rw [ByteArray.size_append, s2, bSub_size, bSub_size]; have : digits.size = 10 := rfl; omega))
  repeat (first | refine Q_nil ?_ | (apply Q_plain; first | (apply Q_go; refine qP ?_) | refine qY ?_) | (apply Q_guarded; first | (apply Q_go; refine qPG ?_) | refine qG ?_))
  intro w hw
  repeat (first | (first | refine W_seq ?_ | refine W_block ?_ | refine W_region ?_ | refine W_skip ?_ | refine W_ret ?_ | refine W_exit ?_) | (first | refine L_nil ?_ | (apply L_plain; first | (apply L_go; refine lP ?_) | (apply L_mf; refine lMakeFunc ?_) | refine lY ?_) | (apply L_guarded; first | refine lGT ?_ | refine lGF ?_ | (apply L_go; refine lPG ?_) | refine lG ?_)))
  exact ⟨_, rfl, rfl, hw⟩

end Go.Proofs.Ytekdbdhkpolooaa
