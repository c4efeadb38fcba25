/- Steps of the laws: their names, services and waiters. -/
import Derived.Test.YtekdbdhkpolooaaN19
open Go
namespace Mk
theorem y_indexA {P : Program} {d : Option Tmp} {T ty : TypeId} {x y : Operand} {pos : String} {es : Array Edge} {g : Option (Nat × Bool)} {ρ : Fr} {w : World} {n E : Nat} {cs : Array Value} {i : Int} {k : IntKind} {v : Value} [hT : TArr P T n E 1] [hE : TS P E] (hx : ev ρ x = .agg cs) (hy : ev ρ y = .int k i) (h0 : 0 ≤ i) (h1 : i < n) (hv : cs[i.toNat]? = some v) : Yields P ⟨d, .index T x y, ty, pos, es, g⟩ ρ w v := by
  have hT1 := hT.h
  have hT2 := hT.s
  have hE := hE.h
  unfold Yields; simp [execOp, go_sem, hx, hy, h0, h1, hT1, Instr.index, part, run_underlying hT1, scal_isAgg hE, scal_size hE, hv]
end Mk
open Mk
namespace Go.Proofs.Ytekdbdhkpolooaa
set_option maxHeartbeats 4000000
attribute [local irreducible] Calls

structure Step where
  What : Int
  Name : Int
  Core : Int
  V : Int
  Raw : Bool
  S : Service
  W : Waiter
instance : GoT Step where
  enc a := [.int .i64 a.What, .int .i64 a.Name, .int .i64 a.Core, .int .i64 a.V, .bool a.Raw, .string a.S.Name, .int .i64 a.S.Core, .int .i64 a.S.Object, .int .i64 a.S.Kind, .int .i64 a.W.Token, .int .i64 a.W.Core, .string a.W.Name]
  inj a b h := by
    obtain ⟨_, _, _, _, _, ⟨_, _, _, _⟩, ⟨_, _, _⟩⟩ := a
    obtain ⟨_, _, _, _, _, ⟨_, _, _, _⟩, ⟨_, _, _⟩⟩ := b
    simp at h; simp [h]
  ks := [5, 5, 5, 5, 0, 1, 5, 5, 5, 5, 5, 1]
  kinds a := rfl

instance : TBA Try.prog 82 1 (List.replicate 8 (.string ⟨#[]⟩)) := ⟨by kernel_rfl, by kernel_rfl⟩
def nmT : List ByteArray := [⟨#[97]⟩, ⟨#[98]⟩, ⟨#[99]⟩, ⟨#[100, 105, 115, 107]⟩, ⟨#[110, 101, 116]⟩, ⟨#[95, 120]⟩, ⟨#[84, 105, 109, 101, 114]⟩, ⟨#[57]⟩]
def nm (v : Int) : ByteArray := nmT.getD (v % 8).toNat ⟨#[]⟩
instance (v : Int) : PC Try.prog 30 [.int .i64 v] (.string (nm v)) := ⟨fun w => by
  have h0 : 0 ≤ v % 8 := Int.emod_nonneg v (by decide)
  have h1 : v % 8 < 8 := Int.emod_lt_of_pos v (by decide)
  have hv : (nmT.map Value.string).toArray[(v % 8).toNat]? = some (.string (nm v)) := by
    have hl : (v % 8).toNat < nmT.length := by show _ < 8; omega
    unfold nm
    simp [List.getD, List.getElem?_eq_getElem hl]
  refine calls_of_W Try.func30 rfl rfl ?_
  repeat (first | (first | refine W_seq ?_ | refine W_block ?_ | refine W_region ?_ | refine W_skip ?_ | refine W_ret ?_ | refine W_exit ?_) | (first | refine L_nil ?_ | (apply L_plain; first | (apply L_go; refine lP ?_) | (apply L_mf; refine lMakeFunc ?_) | refine lY ?_) | (apply L_guarded; first | refine lGT ?_ | refine lGF ?_ | (apply L_go; refine lPG ?_) | refine lG ?_)))
  refine lY ?_ (hy := y_buildA rfl)
  repeat (first | (first | refine W_seq ?_ | refine W_block ?_ | refine W_region ?_ | refine W_skip ?_ | refine W_ret ?_ | refine W_exit ?_) | (first | refine L_nil ?_ | (apply L_plain; first | (apply L_go; refine lP ?_) | (apply L_mf; refine lMakeFunc ?_) | refine lY ?_) | (apply L_guarded; first | refine lGT ?_ | refine lGF ?_ | (apply L_go; refine lPG ?_) | refine lG ?_)))
  refine lY ?_ (hy := y_indexA (n := 8) (E := 9) rfl rfl h0 h1 hv)
  repeat (first | (first | refine W_seq ?_ | refine W_block ?_ | refine W_region ?_ | refine W_skip ?_ | refine W_ret ?_ | refine W_exit ?_) | (first | refine L_nil ?_ | (apply L_plain; first | (apply L_go; refine lP ?_) | (apply L_mf; refine lMakeFunc ?_) | refine lY ?_) | (apply L_guarded; first | refine lGT ?_ | refine lGF ?_ | (apply L_go; refine lPG ?_) | refine lG ?_)))
  exact ⟨_, rfl, rfl, rfl⟩⟩

def smallX (x : Step) : Bool := x.Raw && decide ((x.S.Name.size : Int) ≤ 60) && decide ((x.W.Name.size : Int) ≤ 60)
def plS (x : Step) : Service := if smallX x = true then x.S else ⟨nm x.Name, x.Core % 4, 64 * (x.V % 100), x.V % 3⟩
def plW (x : Step) : Waiter := if smallX x = true then x.W else ⟨1 + x.V % 5, x.Core % 4, nm x.Name⟩
theorem plain_any (Γ : Gho) (S : List Res) (w : World) (x : Step) (hw : Wd Γ S w) :
    Calls Try.prog 14 #[.agg (enc x).toArray] w fun e w' => e = .returned (.tuple #[svcV (plS x), .agg (enc (plW x)).toArray]) ∧ Wd Γ S w' := by
  refine calls_of_WC Try.func14 rfl rfl ?_
  repeat (first | (first | refine W_seq ?_ | refine W_block ?_ | refine W_region ?_ | refine W_skip ?_ | refine W_ret ?_ | refine W_exit ?_) | (first | refine L_nil ?_ | (apply L_plain; first | (apply L_go; refine lP ?_) | (apply L_mf; refine lMakeFunc ?_) | refine lY ?_) | (apply L_guarded; first | refine lGT ?_ | refine lGF ?_ | (apply L_go; refine lPG ?_) | refine lG ?_)))
  refine lBox ?_
  intro b1 w hw
  refine lAlloc ?_
  intro b2 w hw
  refine lAlloc ?_
  intro b3 w hw
  repeat (first | (first | refine W_seq ?_ | refine W_block ?_ | refine W_region ?_ | refine W_skip ?_ | refine W_ret ?_ | refine W_exit ?_) | (first | refine L_nil ?_ | (apply L_plain; first | (apply L_go; refine lP ?_) | (apply L_mf; refine lMakeFunc ?_) | refine lY ?_) | (apply L_guarded; first | refine lGT ?_ | refine lGF ?_ | (apply L_go; refine lPG ?_) | refine lG ?_)))
  refine W_cond rfl (fun h => ?_) (fun h => ?_)
  · have h : smallX x = true := h
    repeat (first | (first | refine W_seq ?_ | refine W_block ?_ | refine W_region ?_ | refine W_skip ?_ | refine W_ret ?_ | refine W_exit ?_) | (first | refine L_nil ?_ | (apply L_plain; first | (apply L_go; refine lP ?_) | (apply L_mf; refine lMakeFunc ?_) | refine lY ?_) | (apply L_guarded; first | refine lGT ?_ | refine lGF ?_ | (apply L_go; refine lPG ?_) | refine lG ?_)))
    refine W_mix1 [_] _ [[],[],[],[],[0],[0]] [[],[],[],[],[0],[0]] (hw.ps [2]) ?_
    repeat (first | refine mY ?_ | refine mP ?_ | refine mEndAt ?_ | refine mEnd0 ?_ | refine mEnd ?_)
    refine mStoreC (j := 1) ?_
    repeat (first | refine mY ?_ | refine mP ?_ | refine mEndAt ?_ | refine mEnd0 ?_ | refine mEnd ?_)
    refine mStoreC (j := 0) ?_
    repeat (first | refine mY ?_ | refine mP ?_ | refine mEndAt ?_ | refine mEnd0 ?_ | refine mEnd ?_)
    intro w hw
    have hw := Wd.dropEnd (A := [_]) hw
    repeat (first | (first | refine W_seq ?_ | refine W_block ?_ | refine W_region ?_ | refine W_skip ?_ | refine W_ret ?_ | refine W_exit ?_) | (first | refine L_nil ?_ | (apply L_plain; first | (apply L_go; refine lP ?_) | (apply L_mf; refine lMakeFunc ?_) | refine lY ?_) | (apply L_guarded; first | refine lGT ?_ | refine lGF ?_ | (apply L_go; refine lPG ?_) | refine lG ?_)))
    refine ⟨[svcV (plS x), .agg (enc (plW x)).toArray], ⟨?_, ?_, trivial⟩, rfl, hw.drop.drop.drop⟩
    · rw [show plS x = x.S from by simp [plS, h]]
      exact resC (i := 2) hw rfl rfl rfl
    · rw [show plW x = x.W from by simp [plW, h]]
      exact resC (i := 1) hw rfl rfl rfl
  · have h : smallX x = false := h
    repeat (first | (first | refine W_seq ?_ | refine W_block ?_ | refine W_region ?_ | refine W_skip ?_ | refine W_ret ?_ | refine W_exit ?_) | (first | refine L_nil ?_ | (apply L_plain; first | (apply L_go; refine lP ?_) | (apply L_mf; refine lMakeFunc ?_) | refine lY ?_) | (apply L_guarded; first | refine lGT ?_ | refine lGF ?_ | (apply L_go; refine lPG ?_) | refine lG ?_)))
    refine W_mix1 [_] _ [[],[],[],[],[],[],[],[],[],[],[],[],[],[],[],[],[],[],[],[],[],[0],[0]] [[],[],[],[],[],[],[],[],[],[],[],[],[],[],[],[],[],[],[],[],[],[0],[0]] (hw.ps [2]) ?_
    repeat (first | refine mY ?_ | refine mP ?_ | refine mEndAt ?_ | refine mEnd0 ?_ | refine mEnd ?_)
    refine mY (v := .agg (enc (⟨nm x.Name, x.Core % 4, 64 * (x.V % 100), x.V % 3⟩ : Service)).toArray) ?_ rfl rfl rfl (fun Y w g hw => y_build rfl)
    repeat (first | refine mY ?_ | refine mP ?_ | refine mEndAt ?_ | refine mEnd0 ?_ | refine mEnd ?_)
    refine mY (v := .agg (enc (⟨1 + x.V % 5, x.Core % 4, nm x.Name⟩ : Waiter)).toArray) ?_ rfl rfl rfl (fun Y w g hw => y_build rfl)
    repeat (first | refine mY ?_ | refine mP ?_ | refine mEndAt ?_ | refine mEnd0 ?_ | refine mEnd ?_)
    refine mStoreC (j := 1) ?_
    repeat (first | refine mY ?_ | refine mP ?_ | refine mEndAt ?_ | refine mEnd0 ?_ | refine mEnd ?_)
    refine mStoreC (j := 0) ?_
    repeat (first | refine mY ?_ | refine mP ?_ | refine mEndAt ?_ | refine mEnd0 ?_ | refine mEnd ?_)
    intro w hw
    have hw := Wd.dropEnd (A := [_]) hw
    repeat (first | (first | refine W_seq ?_ | refine W_block ?_ | refine W_region ?_ | refine W_skip ?_ | refine W_ret ?_ | refine W_exit ?_) | (first | refine L_nil ?_ | (apply L_plain; first | (apply L_go; refine lP ?_) | (apply L_mf; refine lMakeFunc ?_) | refine lY ?_) | (apply L_guarded; first | refine lGT ?_ | refine lGF ?_ | (apply L_go; refine lPG ?_) | refine lG ?_)))
    refine ⟨[svcV (plS x), .agg (enc (plW x)).toArray], ⟨?_, ?_, trivial⟩, rfl, hw.drop.drop.drop⟩
    · rw [show plS x = ⟨nm x.Name, x.Core % 4, 64 * (x.V % 100), x.V % 3⟩ from by simp [plS, h]]
      exact resC (i := 2) hw rfl rfl rfl
    · rw [show plW x = ⟨1 + x.V % 5, x.Core % 4, nm x.Name⟩ from by simp [plW, h]]
      exact resC (i := 1) hw rfl rfl rfl

def woK (token core : Int) (all : Bool) (x : Waiter) : Bool := decide (x.Core ≠ core) || (!all && decide (x.Token ≠ token))
theorem without_any (Γ : Gho) (S : List Res) (w : World) (va : Value) (l : List Waiter) (token core : Int) (all : Bool) (hl : l.length ≤ 1000) (hw : Wd Γ (.own va 35 3 (l.map enc) :: S) w) :
    Calls Try.prog 17 #[va, .int .i64 token, .int .i64 core, .bool all] w fun e w' => ∃ v, e = .returned v ∧ Wd Γ (.own v 35 3 ((l.filter (woK token core all)).map enc) :: S) w' := by
  obtain ⟨a, n, c, rfl, hn, hnc, hc⟩ := hw.own_shape (i := 0) rfl
  simp only [List.length_map] at hn
  refine calls_of_W Try.func17 rfl rfl ?_
  repeat (first | (first | refine W_seq ?_ | refine W_block ?_ | refine W_region ?_ | refine W_skip ?_ | refine W_ret ?_ | refine W_exit ?_) | (first | refine L_nil ?_ | (apply L_plain; first | (apply L_go; refine lP ?_) | (apply L_mf; refine lMakeFunc ?_) | refine lY ?_) | (apply L_guarded; first | refine lGT ?_ | refine lGF ?_ | (apply L_go; refine lPG ?_) | refine lG ?_)))
  refine W_loop (fun μ ρ w => ∃ (k : Nat) (g : Value), μ + k = n ∧ Has ρ [(0, .slice a n c), (1, .int .i64 token), (2, .int .i64 core), (3, .bool all), (9, g), (10, .int .i64 k)] ∧ Wd Γ (.own g 35 3 (((l.take k).filter (woK token core all)).map enc) :: .own (.slice a n c) 35 3 (l.map enc) :: S) w) n ⟨0, _, by omega, ⟨rfl, rfl, rfl, rfl, rfl, rfl, trivial⟩, Wd.addNil hw⟩ ?_
  clear hw
  rintro μ ρ w ⟨k, g, hk, hρ, hw⟩
  rw [hρ.eq]
  obtain ⟨ag, ng, cg, rfl, hng, -, -⟩ := hw.own_shape (i := 0) rfl
  have hl1 := filter_take_le (p := woK token core all) (l := l) (k := k)
  simp only [List.length_map] at hng
  repeat (first | (first | refine W_seq ?_ | refine W_block ?_ | refine W_region ?_ | refine W_skip ?_ | refine W_ret ?_ | refine W_exit ?_) | (first | refine L_nil ?_ | (apply L_plain; first | (apply L_go; refine lP ?_) | (apply L_mf; refine lMakeFunc ?_) | refine lY ?_) | (apply L_guarded; first | refine lGT ?_ | refine lGF ?_ | (apply L_go; refine lPG ?_) | refine lG ?_)))
  refine W_cond rfl (fun h => ?_) (fun h => ?_)
  · have hkn : k < n := by simpa using h
    obtain ⟨x, hx⟩ := get_lt (l := l) (k := k) (by omega)
    repeat (first | (first | refine W_seq ?_ | refine W_block ?_ | refine W_region ?_ | refine W_skip ?_ | refine W_ret ?_ | refine W_exit ?_) | (first | refine L_nil ?_ | (apply L_plain; first | (apply L_go; refine lP ?_) | (apply L_mf; refine lMakeFunc ?_) | refine lY ?_) | (apply L_guarded; first | refine lGT ?_ | refine lGF ?_ | (apply L_go; refine lPG ?_) | refine lG ?_)))
    refine W_cond rfl (fun h2 => ?_) (fun h2 => ?_)
    · have h2 : woK token core all x = true := h2
      repeat (first | (first | refine W_seq ?_ | refine W_block ?_ | refine W_region ?_ | refine W_skip ?_ | refine W_ret ?_ | refine W_exit ?_) | (first | refine L_nil ?_ | (apply L_plain; first | (apply L_go; refine lP ?_) | (apply L_mf; refine lMakeFunc ?_) | refine lY ?_) | (apply L_guarded; first | refine lGT ?_ | refine lGF ?_ | (apply L_go; refine lPG ?_) | refine lG ?_)))
      refine lBuildSlice [enc x] ?_
      intro a4 w hw
      refine lApp (rows2 := [enc x]) ?_ (Wd.own_rd (i := 0) hw rfl)
      intro v' w hw
      repeat (first | (first | refine W_seq ?_ | refine W_block ?_ | refine W_region ?_ | refine W_skip ?_ | refine W_ret ?_ | refine W_exit ?_) | (first | refine L_nil ?_ | (apply L_plain; first | (apply L_go; refine lP ?_) | (apply L_mf; refine lMakeFunc ?_) | refine lY ?_) | (apply L_guarded; first | refine lGT ?_ | refine lGF ?_ | (apply L_go; refine lPG ?_) | refine lG ?_)))
      refine ⟨μ - 1, by omega, k + 1, v', by omega, ⟨rfl, rfl, rfl, rfl, rfl, rfl, trivial⟩, ?_⟩
      rw [filter_snoc hx, h2]
      simpa using hw.drop
    · have h2 : woK token core all x = false := h2
      repeat (first | (first | refine W_seq ?_ | refine W_block ?_ | refine W_region ?_ | refine W_skip ?_ | refine W_ret ?_ | refine W_exit ?_) | (first | refine L_nil ?_ | (apply L_plain; first | (apply L_go; refine lP ?_) | (apply L_mf; refine lMakeFunc ?_) | refine lY ?_) | (apply L_guarded; first | refine lGT ?_ | refine lGF ?_ | (apply L_go; refine lPG ?_) | refine lG ?_)))
      refine ⟨μ - 1, by omega, k + 1, .slice ag ng cg, by omega, ⟨rfl, rfl, rfl, rfl, rfl, rfl, trivial⟩, ?_⟩
      rw [filter_snoc hx, h2]
      simpa using hw
  · have hkn : ¬ k < n := by simpa using h
    have hk2 : l.take k = l := List.take_of_length_le (by omega)
    rw [hk2] at hw
    repeat (first | (first | refine W_seq ?_ | refine W_block ?_ | refine W_region ?_ | refine W_skip ?_ | refine W_ret ?_ | refine W_exit ?_) | (first | refine L_nil ?_ | (apply L_plain; first | (apply L_go; refine lP ?_) | (apply L_mf; refine lMakeFunc ?_) | refine lY ?_) | (apply L_guarded; first | refine lGT ?_ | refine lGF ?_ | (apply L_go; refine lPG ?_) | refine lG ?_)))
    exact ⟨_, rfl, _, rfl, hw.dropAt 1⟩
end Go.Proofs.Ytekdbdhkpolooaa
