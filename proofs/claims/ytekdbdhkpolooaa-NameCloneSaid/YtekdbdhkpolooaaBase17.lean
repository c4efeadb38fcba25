/- Regions that draw their order and make a block: allocation and store there. -/
import Derived.Test.YtekdbdhkpolooaaBase16
open Go
namespace Mk

/-- What is owned at the block that v points to. -/
def atP (v : Value) (F : Nat → List Res) : Res := Res.ex (α := {bb : Nat // v = .pointer (some ⟨bb, 0, none⟩)}) fun p => F p.1

section
variable {P : Program} {n : Nat} {ops : List Oper} {Γ : Gho} {S K : List Res} {wr tc stab : List (List Nat)} {Q : Fr → World → Prop} {i : Nat} {rest : List Oper} {ρ : Fr} {w : World} {M : Nat → Fr → List Res} {v : Value} {F : Nat → List Res}
variable {d : Option Tmp} {T U ty : TypeId} {pos : String} {es : Array Edge} {x y z : Operand}

theorem Wd.mid {r : Res} {Y : List Res} (h : Wd Γ (K ++ (r :: Y)) w) : Wd Γ (r :: (K ++ Y)) w := h.perm List.perm_middle
theorem Wd.unmid {r : Res} {Y : List Res} (h : Wd Γ (r :: (K ++ Y)) w) : Wd Γ (K ++ (r :: Y)) w := h.perm List.perm_middle.symm
theorem Wd.swapApp {A B C : List Res} (h : Wd Γ (A ++ (B ++ C)) w) : Wd Γ (B ++ (A ++ C)) w := h.perm (by
  rw [← List.append_assoc, ← List.append_assoc]
  exact List.perm_append_comm.append_right C)
theorem Wd.openAt (h : Wd Γ (atP v F :: S) w) : ∃ bb, v = .pointer (some ⟨bb, 0, none⟩) ∧ Wd Γ (F bb ++ S) w := by
  obtain ⟨⟨bb, hb⟩, h'⟩ := h.openEx
  exact ⟨bb, hb, h'⟩
theorem Wd.closeAt {bb : Nat} (h : Wd Γ (F bb ++ S) w) : Wd Γ (atP (.pointer (some ⟨bb, 0, none⟩)) F :: S) w := Wd.closeEx (X := fun p : {c : Nat // Value.pointer (some ⟨bb, 0, none⟩) = .pointer (some ⟨c, 0, none⟩)} => F p.1) ⟨bb, rfl⟩ h

theorem setC_self {c : Nat} {m : Fr → List Res} : setC M c m c = m := by simp [setC]
theorem mAlloc {c dd : Nat} {cs : List Value} [TZ P T cs] (h : MSw (mV P n ops Γ K wr tc stab) Q (i + 1) rest ⟨putO ρ (some dd) undef, setC M c fun g => [atP (g dd) fun bb => [.blk bb (.cells cs.toArray T)]]⟩)
    (ht : tc.getD i [] = [c] := by exact rfl) (hM : M c = (fun _ => []) := by exact rfl) (hs : (stab.getD c []).contains dd = true := by exact rfl) (hf : freeD stab (some dd) = true := by exact rfl) (hw0 : wr.getD i [] = [c] := by exact rfl) :
    MSw (mV P n ops Γ K wr tc stab) Q i (⟨some dd, .alloc T, ty, pos, es, none⟩ :: rest) ⟨ρ, M⟩ := by
  refine mM _ (fun Y w g hw => ?_) h hw0 rfl
  have hw1 : Wd Γ (K ++ Y) w := by
    have : cellsAt tc stab i M g = [] := by unfold cellsAt; rw [ht]; simp [hM]
    rw [this] at hw; exact hw
  refine s_alloc hw1 fun b w' hw' => ⟨?_, fun hh => by rw [hf] at hh; cases hh⟩
  have e : cellsAt tc stab i (setC M c fun g => [atP (g dd) fun bb => [.blk bb (.cells cs.toArray T)]]) (putO g (some dd) (.pointer (some ⟨b, 0, none⟩))) = [atP (.pointer (some ⟨b, 0, none⟩)) fun bb => [.blk bb (.cells cs.toArray T)]] := by
    unfold cellsAt; rw [ht]
    have h1 : ovr (stab.getD c []) (putO g (some dd) (.pointer (some ⟨b, 0, none⟩))) noFr dd = .pointer (some ⟨b, 0, none⟩) := by
      rw [ovr_in (by simpa using hs)]; exact upd_same _ _ _
    simp only [List.flatMap_cons, List.flatMap_nil, List.append_nil, setC_self, h1]
  rw [e]
  exact Wd.unmid (Wd.closeAt (F := fun bb => [.blk bb (.cells cs.toArray T)]) hw')
theorem mStoreAt {c dd m : Nat} {cs : Array Value} {E : TypeId} {vs : List Value} [hn : TSz P T m] (h : MSw (mV P n ops Γ K wr tc stab) Q (i + 1) rest ⟨ρ, setC M c fun g => [atP (g dd) fun bb => [.blk bb (.cells (putCells cs 0 vs) E)]]⟩)
    (hd : stab.flatten.contains dd = true := by exact rfl) (ht : tc.getD i [] = [c] := by exact rfl) (hM : M c = (fun g => [atP (g dd) fun bb => [.blk bb (.cells cs E)]]) := by exact rfl) (hs : (stab.getD c []).contains dd = true := by exact rfl) (hw0 : wr.getD i [] = [c] := by exact rfl)
    (hy : ∀ g, ev (ovr stab.flatten g ρ) y = v := by intro g; exact (by first | exact (rfl : _ = Value.int _ _) | exact (rfl : _ = Value.bool _) | exact (rfl : _ = Value.string _) | exact (rfl : _ = Value.slice _ _ _) | exact (rfl : _ = Value.pointer _) | exact (rfl : _ = Value.agg _) | exact (rfl : _ = Value.map _) | exact (rfl : _ = Value.tuple _) | exact (rfl : _ = Value.func _ _ _) | exact (rfl : _ = gv _ _) | exact rfl)) (hv : v.cells.toList = vs := by exact rfl) (hl : vs.length = m := by exact rfl) (h1 : vs.all (·.oneCell') = true := by exact rfl) (ho : m ≤ cs.size := by exact Nat.le_of_ble_eq_true rfl) :
    MSw (mV P n ops Γ K wr tc stab) Q i (⟨none, .store T (.tmp dd) y, ty, pos, es, none⟩ :: rest) ⟨ρ, M⟩ := by
  refine mM (v := undef) _ (fun Y w g hw => ?_) h hw0 rfl
  have e : cellsAt tc stab i M g = [atP (g dd) fun bb => [.blk bb (.cells cs E)]] := by
    unfold cellsAt; rw [ht]
    have h1 : ovr (stab.getD c []) g noFr dd = g dd := ovr_in (by simpa using hs)
    simp only [List.flatMap_cons, List.flatMap_nil, List.append_nil, hM, h1]
  rw [e] at hw
  obtain ⟨bb, hb, hw1⟩ := (Wd.mid hw).openAt
  have hx : ev (ovr stab.flatten g ρ) (.tmp dd) = .pointer (some ⟨bb, 0, none⟩) := by
    show ovr stab.flatten g ρ dd = _
    rw [ovr_in (by simpa using hd)]; exact hb
  refine s_store hn.h hw1 hx (hy g) hv hl (fun u hu => (List.all_eq_true.1 h1) u hu) (i := 0) rfl (by omega) fun w' hw' => ⟨?_, fun hh => rfl⟩
  have e2 : cellsAt tc stab i (setC M c fun g => [atP (g dd) fun bb => [.blk bb (.cells (putCells cs 0 vs) E)]]) (putO g none undef) = [atP (.pointer (some ⟨bb, 0, none⟩)) fun bb => [.blk bb (.cells (putCells cs 0 vs) E)]] := by
    unfold cellsAt; rw [ht]
    have h1 : ovr (stab.getD c []) g noFr dd = .pointer (some ⟨bb, 0, none⟩) := (ovr_in (by simpa using hs)).trans hb
    simp only [List.flatMap_cons, List.flatMap_nil, List.append_nil, setC_self, putO, h1]
  rw [e2]
  exact Wd.unmid (Wd.closeAt (F := fun bb => [.blk bb (.cells (putCells cs 0 vs) E)]) hw')
/-- The end, where one block has been made. -/
theorem mEndAt {dd : Nat} (h : ∀ bb w, Wd Γ (F bb ++ K) w → Q (upd ρ dd (.pointer (some ⟨bb, 0, none⟩))) w) (hM : M 0 = (fun g => [atP (g dd) F]) := by exact rfl) : MSw (mV P n ops Γ K wr tc [[dd]]) Q i [] ⟨ρ, M⟩ :=
  mEnd fun w g hw => by
    have h0 : ((List.range [[dd]].length).flatMap fun x => M x (ovr ([[dd]].getD x []) g noFr)) = [atP (g dd) F] := by
      show M 0 (ovr [dd] g noFr) ++ [] = _
      rw [hM]
      show [atP (upd noFr dd (g dd) dd) F] ++ [] = _
      rw [upd_same]; rfl
    rw [h0] at hw
    obtain ⟨bb, hb, hw1⟩ := (Wd.mid hw).openAt
    have := h bb w (by simpa using hw1)
    rwa [← hb] at this
/-- The end, where no slot is left open. -/
theorem mEnd0 (h : ∀ w, Wd Γ (K ++ (List.range stab.length).flatMap fun x => M x noFr) w → Q ρ w) (hs : stab.all (fun l => l.isEmpty) = true := by exact rfl) : MSw (mV P n ops Γ K wr tc stab) Q i [] ⟨ρ, M⟩ :=
  mEnd fun w g hw => by
    have h1 : ∀ x, stab.getD x [] = [] := fun x => by
      rw [List.getD_eq_getElem?_getD]
      cases hx : stab[x]? with
      | none => rfl
      | some l =>
        have := (List.all_eq_true.1 hs) l (List.mem_of_getElem? hx)
        simpa using this
    have h2 : stab.flatten = [] := by
      rw [List.flatten_eq_nil_iff]
      intro l hl
      have := (List.all_eq_true.1 hs) l hl
      simpa using this
    rw [h2]
    refine h w ?_
    have : ((List.range stab.length).flatMap fun x => M x (ovr (stab.getD x []) g noFr)) = (List.range stab.length).flatMap fun x => M x noFr := flatMap_congr' fun x _ => by rw [h1 x]; rfl
    rwa [this] at hw
end

section
variable {P : Program} {n : Nat} {opa : Array Oper} {Γ : Gho} {S : List Res} {QQ : Exit → Fr → World → Prop} {ρ : Fr} {w : World} {rest : List Oper} {d : Option Tmp} {T ty : TypeId} {pos : String} {es : Array Edge} {x y : Operand}
theorem lApp {E by' i sz m c m2 c2 : Nat} {zs : List Value} {a a2 : Option Addr} {rows rows2 : List (List Value)} [TL P T E sz by' zs] (h : ∀ v' w', Wd Γ (S.set i (.own v' E sz (rows ++ rows2))) w' → L P n opa QQ rest (putO ρ d v') w') (hr2 : Rd w a2 sz rows2) (hx : ev ρ x = .slice a m c := by exact rfl) (hy : ev ρ y = .slice a2 m2 c2 := by exact rfl) (hw : Wd Γ S w := by exact hw)
    (hi : S[i]? = some (.own (.slice a m c) E sz rows) := by first | exact (rfl : (_ : List Res)[0]? = _) | exact (rfl : (_ : List Res)[1]? = _) | exact (rfl : (_ : List Res)[2]? = _) | exact (rfl : (_ : List Res)[3]? = _) | exact (rfl : (_ : List Res)[4]? = _) | exact (rfl : (_ : List Res)[5]? = _) | exact (rfl : (_ : List Res)[6]? = _) | exact (rfl : (_ : List Res)[7]? = _)) (h1 : rows2.flatten.all (·.oneCell') = true := by exact rfl) (hm : m2 = rows2.length := by exact rfl) (hb : (m + m2) * by' ≤ 140737488355328 := by omega) (h63 : m + m2 ≤ 9223372036854775807 := by omega) (hd : okDst n d = true := by exact rfl) :
    L P n opa QQ (⟨d, .call { callee := .builtin .append, args := #[x, y], argTypes := #[T, T] }, ty, pos, es, none⟩ :: rest) ρ w := lAppend h hr2 hm (fun u hu => (List.all_eq_true.1 h1) u hu) hb h63 hw hx hy hi hd
end
end Mk
