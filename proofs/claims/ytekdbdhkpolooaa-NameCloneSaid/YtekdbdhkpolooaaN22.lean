/- Two appends and an assignment in one region of undecided order. -/
import Derived.Test.YtekdbdhkpolooaaN21
open Go
namespace Mk
attribute [local irreducible] Calls
theorem W_cut {P : Program} {n : Nat} {c1 c2 : Code} {Q : Exit → Fr → World → Prop} {ρ : Fr} {w : World} (I : Fr → World → Prop) (h1 : W P n c1 (Then I Q) ρ w) (h2 : ∀ ρ w, I ρ w → W P n c2 Q ρ w) : W P n (.seq c1 c2) Q ρ w :=
  W_seq (h1.mono fun e ρ w h => by cases e <;> first | exact h2 _ _ h | exact h)
section
variable {P : Program} {n : Nat} {ops : List Oper} {Γ : Gho} {K : List Res} {Q : Fr → World → Prop} {ρ : Fr} {rest : List Oper} {wr tc stab : List (List Nat)} {i : Nat} {M : Nat → Fr → List Res}
variable {T ty : TypeId} {pos : String} {es : Array Edge} {x y : Operand}
/-- An append onto nothing: the slice lies in a cell of its own. -/
theorem mAppNil {c dd E by' sz m cc : Nat} {zs : List Value} {a2 : Option Addr} {rows2 : List (List Value)} [TL P T E sz by' zs] (h : MSw (mV P n ops Γ K wr tc stab) Q (i + 1) rest ⟨putO ρ (some dd) undef, setC M c fun g => [.own (g dd) E sz rows2]⟩)
    (hrd : ∀ Y w, Wd Γ (K ++ Y) w → Rd w a2 sz rows2) (hl : m = rows2.length) (h1 : ∀ u ∈ rows2.flatten, u.oneCell' = true)
    (hx : ∀ g, ev (ovr stab.flatten g ρ) x = .slice none 0 0 := by intro g; exact rfl) (hy : ∀ g, ev (ovr stab.flatten g ρ) y = .slice a2 m cc := by intro g; exact rfl)
    (ht : tc.getD i [] = [c] := by exact rfl) (hM : M c = (fun _ => []) := by exact rfl)
    (hs : (stab.getD c []).contains dd = true := by exact rfl) (hfr : freeD stab (some dd) = true := by exact rfl) (hw0 : wr.getD i [] = [c] := by exact rfl)
    (hb : m * by' ≤ 140737488355328 := by omega) (h63 : m ≤ 9223372036854775807 := by omega) :
    MSw (mV P n ops Γ K wr tc stab) Q i (⟨some dd, .call { callee := .builtin .append, args := #[x, y], argTypes := #[T, T] }, ty, pos, es, none⟩ :: rest) ⟨ρ, M⟩ := by
  refine mM (v := undef) _ (fun Y w g hw => ?_) h hw0 rfl
  rw [cells1 ht, hM] at hw
  have hr := hrd _ _ hw
  refine s_append (i := 0) (Wd.addNil (a := none) (E := E) (sz := sz) hw) (hx g) (hy g) rfl hr hl h1 (by simpa using hb) (by simpa using h63) fun v' w' hw' => ⟨?_, fun hh => by rw [hfr] at hh; cases hh⟩
  rw [cells1 ht, setC_self]
  have h3 : ovr (stab.getD c []) (putO g (some dd) v') noFr dd = v' := by
    rw [ovr_in (by simpa using hs)]; exact upd_same _ _ _
  rw [h3]
  exact Wd.unmid hw'
/-- An append onto the slice of the cell. -/
theorem mAppOwn {c dx dd E by' sz m cc : Nat} {zs : List Value} {a2 : Option Addr} {rows rows2 : List (List Value)} [TL P T E sz by' zs] (h : MSw (mV P n ops Γ K wr tc stab) Q (i + 1) rest ⟨putO ρ (some dd) undef, setC M c fun g => [.own (g dd) E sz (rows ++ rows2)]⟩)
    (hrd : ∀ Y w, Wd Γ (K ++ Y) w → Rd w a2 sz rows2) (hl : m = rows2.length) (h1 : ∀ u ∈ rows2.flatten, u.oneCell' = true)
    (hy : ∀ g, ev (ovr stab.flatten g ρ) y = .slice a2 m cc := by intro g; exact rfl)
    (ht : tc.getD i [] = [c] := by exact rfl) (hM : M c = (fun g => [.own (g dx) E sz rows]) := by exact rfl)
    (hs : (stab.getD c []).contains dd = true := by exact rfl) (hsx : (stab.getD c []).contains dx = true := by exact rfl) (hfx : stab.flatten.contains dx = true := by exact rfl) (hfr : freeD stab (some dd) = true := by exact rfl) (hw0 : wr.getD i [] = [c] := by exact rfl)
    (hb : (rows.length + m) * by' ≤ 140737488355328 := by omega) (h63 : rows.length + m ≤ 9223372036854775807 := by omega) :
    MSw (mV P n ops Γ K wr tc stab) Q i (⟨some dd, .call { callee := .builtin .append, args := #[.tmp dx, y], argTypes := #[T, T] }, ty, pos, es, none⟩ :: rest) ⟨ρ, M⟩ := by
  refine mM (v := undef) _ (fun Y w g hw => ?_) h hw0 rfl
  rw [cells1 ht, hM] at hw
  have h2 : ovr (stab.getD c []) g noFr dx = g dx := ovr_in (by simpa using hsx)
  simp only [h2] at hw
  have hr := hrd _ _ hw
  have hi1 : (K ++ ([.own (g dx) E sz rows] ++ Y))[K.length]? = some (.own (g dx) E sz rows) := by
    rw [List.getElem?_append_right (Nat.le_refl _)]; simp
  obtain ⟨a, m1, c1, e1, e2, e3, e4⟩ := hw.own_shape hi1
  have hx : ev (ovr stab.flatten g ρ) (.tmp dx) = .slice a m1 c1 := by
    show ovr stab.flatten g ρ dx = _
    rw [ovr_in (by simpa using hfx)]; exact e1
  have hi2 := hi1
  rw [e1] at hi2
  refine s_append (i := K.length) (rows := rows) hw hx (hy g) (by rw [hi1, e1]) hr hl h1 (by rw [e2]; exact hb) (by rw [e2]; exact h63) fun v' w' hw' => ⟨?_, fun hh => by rw [hfr] at hh; cases hh⟩
  rw [cells1 ht, setC_self]
  have h3 : ovr (stab.getD c []) (putO g (some dd) v') noFr dd = v' := by
    rw [ovr_in (by simpa using hs)]; exact upd_same _ _ _
  rw [h3]
  rw [List.set_append_right _ _ (Nat.le_refl _), Nat.sub_self] at hw'
  exact hw'
/-- The slice of the cell is assigned. -/
theorem mAssV {c dx dd E sz : Nat} {rows : List (List Value)} (h : MSw (mV P n ops Γ K wr tc stab) Q (i + 1) rest ⟨putO ρ (some dd) undef, setC M c fun g => [.own (g dd) E sz rows]⟩)
    (ht : tc.getD i [] = [c] := by exact rfl) (hM : M c = (fun g => [.own (g dx) E sz rows]) := by exact rfl)
    (hs : (stab.getD c []).contains dd = true := by exact rfl) (hsx : (stab.getD c []).contains dx = true := by exact rfl) (hfx : stab.flatten.contains dx = true := by exact rfl) (hfr : freeD stab (some dd) = true := by exact rfl) (hw0 : wr.getD i [] = [c] := by exact rfl) :
    MSw (mV P n ops Γ K wr tc stab) Q i (⟨some dd, .assign (.tmp dx), ty, pos, es, none⟩ :: rest) ⟨ρ, M⟩ := by
  refine mM (v := undef) _ (fun Y w g hw => ?_) h hw0 rfl
  rw [cells1 ht, hM] at hw
  have h2 : ovr (stab.getD c []) g noFr dx = g dx := ovr_in (by simpa using hsx)
  simp only [h2] at hw
  have hx : ev (ovr stab.flatten g ρ) (.tmp dx) = g dx := by
    show ovr stab.flatten g ρ dx = _
    rw [ovr_in (by simpa using hfx)]
  refine (y_assign (P := P) (w := w) hx).step ⟨?_, fun hh => by rw [hfr] at hh; cases hh⟩
  rw [cells1 ht, setC_self]
  have h3 : ovr (stab.getD c []) (putO g (some dd) (g dx)) noFr dd = g dx := by
    rw [ovr_in (by simpa using hs)]; exact upd_same _ _ _
  rw [h3]
  exact hw
/-- A fact that needs no memory. -/
def Res.pure (p : Prop) : Res where
  holds _ bs _ := bs = [] ∧ p
  loc _ _ _ _ _ _ _ h := h
theorem Wd.pureIn {p : Prop} {S : List Res} {w : World} (hp : p) (hw : Wd Γ S w) : Wd Γ (Res.pure p :: S) w := by
  obtain ⟨bss, h1, h2, h3⟩ := hw.own
  exact ⟨hw.os, hw.tape, hw.out, hw.dr, hw.imm, [] :: bss, ⟨⟨rfl, hp⟩, h1⟩, by simpa using h2, by simpa using h3⟩
theorem Wd.pureOut {p : Prop} {S : List Res} {w : World} {i : Nat} (hw : Wd Γ S w) (hi : S[i]? = some (Res.pure p)) : p := by
  obtain ⟨bss, h1, h2, h3⟩ := hw.own
  obtain ⟨bs, _, hr⟩ := Holds.get S bss i _ h1 hi
  exact hr.2
theorem W_mixP {id : Nat} {l : List Oper} {QQ : Exit → Fr → World → Prop} {w : World} (wr tc : List (List Nat)) (s0 : List Nat) (dd : Nat) (v0 : Value) (h : MSw (mV P n l Γ K wr tc [s0, [dd]]) (fun ρ w => QQ .normal ρ w) 0 l ⟨ρ, ML [fun _ => [], fun g => [Res.pure (g dd = v0)]]⟩)
    (he : ρ dd = v0 := by exact rfl) (hw : Wd Γ K w := by exact hw) (hm : P.follows .mixedOrders = true := by kernel_rfl) (hk : checkM n l wr tc [s0, [dd]] = true := by kernel_rfl) : W P n (.region id l.toArray true) QQ ρ w :=
  W_mixed K _ wr tc [s0, [dd]] (by
    show Wd Γ (K ++ ([] ++ ([Res.pure (ovr [dd] ρ noFr dd = v0)] ++ []))) w
    have h1 : ovr [dd] ρ noFr dd = v0 := by rw [ovr_in (by simp)]; exact he
    exact (Wd.pureIn h1 hw).perm (by simpa using (List.perm_append_comm (l₁ := [Res.pure (ovr [dd] ρ noFr dd = v0)]) (l₂ := K)))) h hm hk
/-- What the cell c2 says of t(dd). -/
theorem mMoveR {c2 dd : Nat} {d : Option Tmp} {v0 : Value} (h : MSw (mV P n ops Γ K wr tc stab) Q (i + 1) rest ⟨putO ρ d v0, M⟩)
    (ht : tc.getD i [] = [c2] := by exact rfl) (hM : M c2 = (fun g => [Res.pure (g dd = v0)]) := by exact rfl) (hs : (stab.getD c2 []).contains dd = true := by exact rfl) (hf : stab.flatten.contains dd = true := by exact rfl)
    (hw0 : wr.getD i [] = [] := by exact rfl) (ho : outOf tc stab i d = true := by exact rfl) : MSw (mV P n ops Γ K wr tc stab) Q i (⟨d, .move (.tmp dd), ty, pos, es, none⟩ :: rest) ⟨ρ, M⟩ := by
  refine mY (v := v0) h hw0 rfl ho (fun Y w g hw => ?_)
  rw [cells1 ht, hM] at hw
  have h2 : ovr (stab.getD c2 []) g noFr dd = g dd := ovr_in (by simpa using hs)
  have h3 := Wd.pureOut (p := ovr (stab.getD c2 []) g noFr dd = v0) hw (i := K.length) (by rw [List.getElem?_append_right (Nat.le_refl _)]; simp)
  rw [h2] at h3
  refine y_move ?_
  show ovr stab.flatten g ρ dd = _
  rw [ovr_in (by simpa using hf)]; exact h3
/-- The slice of the cell 0 is assigned to the t of the cell 1. -/
theorem mAssX {dx dd E sz : Nat} {v0 : Value} {rows : List (List Value)} (h : MSw (mV P n ops Γ K wr tc stab) Q (i + 1) rest ⟨putO ρ (some dd) undef, setC (setC M 0 fun _ => []) 1 fun g => [.own (g dd) E sz rows]⟩)
    (ht : tc.getD i [] = [0, 1] := by exact rfl) (hM : M 0 = (fun g => [.own (g dx) E sz rows]) := by exact rfl) (hM2 : M 1 = (fun g => [Res.pure (g dd = v0)]) := by exact rfl)
    (hs : (stab.getD 1 []).contains dd = true := by exact rfl) (hsx : (stab.getD 0 []).contains dx = true := by exact rfl) (hfx : stab.flatten.contains dx = true := by exact rfl) (hfr : freeD stab (some dd) = true := by exact rfl) (hw0 : wr.getD i [] = [0, 1] := by exact rfl) :
    MSw (mV P n ops Γ K wr tc stab) Q i (⟨some dd, .assign (.tmp dx), ty, pos, es, none⟩ :: rest) ⟨ρ, M⟩ := by
  have hn : Mt.nxt (mV P n ops Γ K wr tc stab) i ⟨ρ, M⟩ ⟨undef, setC (fun _ _ => []) 1 fun g => [.own (g dd) E sz rows]⟩ = setC (setC M 0 fun _ => []) 1 fun g => [.own (g dd) E sz rows] := by
    funext y; simp only [Mt.nxt, MEnv.w, hw0, setC]
    by_cases h0 : y = 0
    · subst h0; rfl
    · by_cases h1 : y = 1
      · subst h1; rfl
      · simp [h0, h1]
  refine ⟨⟨undef, setC (fun _ _ => []) 1 fun g => [.own (g dd) E sz rows]⟩, ⟨fun Γ' Y w g hr hw => ?_⟩, ?_⟩
  · have hΓ : Γ' = Γ := hr
    subst hΓ
    rw [hn]
    refine ⟨fun _ => ?_, fun hf => ?_⟩
    · have hw' : Wd Γ' (K ++ (cellsAt tc stab i M g ++ Y)) w := hw
      unfold cellsAt at hw'
      rw [ht] at hw'
      simp only [List.flatMap_cons, List.flatMap_nil, hM, hM2, List.append_nil] at hw'
      have h2 : ovr (stab.getD 0 []) g noFr dx = g dx := ovr_in (by simpa using hsx)
      rw [h2] at hw'
      have hx : ev (ovr stab.flatten g ρ) (.tmp dx) = g dx := by
        show ovr stab.flatten g ρ dx = _
        rw [ovr_in (by simpa using hfx)]
      refine (y_assign (P := P) (w := w) hx).step ⟨Γ', rfl, ?_, fun hh => ?_⟩
      · show Wd Γ' (K ++ (cellsAt tc stab i _ _ ++ Y)) w
        unfold cellsAt
        rw [ht]
        have h3 : ovr (stab.getD 1 []) (putO g (some dd) (g dx)) noFr dd = g dx := by
          rw [ovr_in (by simpa using hs)]; exact upd_same _ _ _
        show Wd Γ' (K ++ (([] ++ ([.own (ovr (stab.getD 1 []) (putO g (some dd) (g dx)) noFr dd) E sz rows] ++ [])) ++ Y)) w
        rw [h3]
        have h4 := hw'.perm (S' := Res.pure (ovr (stab.getD 1 []) g noFr dd = v0) :: (K ++ (.own (g dx) E sz rows :: Y))) (by
          simp only [List.append_assoc, List.cons_append, List.nil_append]
          exact (List.Perm.append_left K (List.Perm.swap _ _ _)).trans List.perm_middle)
        exact h4.drop
      · have hh' : freeD stab (some dd) = false := hh
        rw [hfr] at hh'; cases hh'
    · rw [wantF_none rfl] at hf; cases hf
  · simp only [Mt.next, hn]; exact h
end
end Mk
