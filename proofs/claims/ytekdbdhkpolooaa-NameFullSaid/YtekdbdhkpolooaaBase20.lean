/- More steps for regions that draw their order and change memory. -/
import Derived.Test.YtekdbdhkpolooaaBase19
open Go
namespace Mk
section
variable {P : Program} {n : Nat} {ops : List Oper} {Γ : Gho} {S K : List Res} {wr tc stab : List (List Nat)} {Q : Fr → World → Prop} {QQ : Exit → Fr → World → Prop} {i : Nat} {rest : List Oper} {ρ : Fr} {w : World} {M : Nat → Fr → List Res} {v : Value}
variable {d : Option Tmp} {T U ty : TypeId} {pos : String} {es : Array Edge} {x y z : Operand}

theorem Wd.toEnd {r : Res} (h : Wd Γ (r :: S) w) : Wd Γ (S ++ [r]) w := h.perm (List.perm_append_singleton r S).symm
def pullL (i : Nat) (S : List Res) : List Res := match S[i]? with | some r => r :: S.eraseIdx i | none => S
def psL : List Nat → List Res → List Res
  | [], S => S
  | i :: is, S => psL is (pullL i S)
/-- Resources are brought to the front, one behind the other. -/
theorem Wd.ps {Γ : Gho} {w : World} : ∀ (is : List Nat) {S : List Res}, Wd Γ S w → Wd Γ (psL is S) w
  | [], _, h => h
  | i :: is, S, h => Wd.ps is (by
    unfold pullL
    split
    · rename_i r hr; exact h.pull hr
    · exact h)
/-- Resources are given up. -/
def dsL : List Nat → List Res → List Res
  | [], S => S
  | i :: is, S => dsL is (S.eraseIdx i)
theorem Wd.ds {Γ : Gho} {w : World} : ∀ (is : List Nat) {S : List Res}, Wd Γ S w → Wd Γ (dsL is S) w
  | [], _, h => h
  | i :: is, _, h => Wd.ds is (h.dropAt i)
theorem Wd.flip {A B : List Res} (h : Wd Γ (A ++ B) w) : Wd Γ (B ++ A) w := h.perm List.perm_append_comm
theorem Wd.dropEnd {A B C : List Res} (h : Wd Γ (A ++ (B ++ C)) w) : Wd Γ (A ++ B) w := by
  rw [← List.append_assoc] at h
  exact h.left
theorem Wd.right {S' : List Res} (h : Wd Γ (S' ++ S) w) : Wd Γ S w := (h.perm List.perm_append_comm).left
theorem Wd.toFront {r : Res} (h : Wd Γ (S ++ [r]) w) : Wd Γ (r :: S) w := h.perm (List.perm_append_singleton r S)

theorem W_mixE {id : Nat} {l : List Oper} (k : Nat) (wr tc stab : List (List Nat)) (h : MSw (mV P n l Γ K wr tc stab) (fun ρ w => QQ .normal ρ w) 0 l ⟨ρ, ML (List.replicate k fun _ => [])⟩)
    (hw : Wd Γ K w := by exact hw) (hm : P.follows .mixedOrders = true := by kernel_rfl) (hk : checkM n l wr tc stab = true := by kernel_rfl) : W P n (.region id l.toArray true) QQ ρ w :=
  W_mixed K _ wr tc stab (by
    have : ((List.range stab.length).flatMap fun x => ML (List.replicate k fun _ => []) x (ovr (stab.getD x []) ρ noFr)) = [] := by
      rw [List.flatMap_eq_nil_iff]
      intro x _
      unfold ML
      rw [List.getD_eq_getElem?_getD]
      cases hx : (List.replicate k fun _ : Fr => ([] : List Res))[x]? with
      | none => rfl
      | some q =>
        have := List.mem_of_getElem? hx
        rw [List.mem_replicate] at this
        rw [this.2]; rfl
    rw [this, List.append_nil]; exact hw) h hm hk
/-- One cell, that holds X. -/
theorem W_mix1 {id : Nat} {l : List Oper} (K X : List Res) (wr tc : List (List Nat)) (hw : Wd Γ (K ++ X) w) (h : MSw (mV P n l Γ K wr tc [[]]) (fun ρ w => QQ .normal ρ w) 0 l ⟨ρ, ML [fun _ => X]⟩)
    (hm : P.follows .mixedOrders = true := by kernel_rfl) (hk : checkM n l wr tc [[]] = true := by kernel_rfl) : W P n (.region id l.toArray true) QQ ρ w :=
  W_mixed K [fun _ => X] wr tc [[]] (by
    show Wd Γ (K ++ (X ++ [])) w
    rw [List.append_nil]; exact hw) h hm hk
/-- Two cells: the first holds X, the second is empty. -/
theorem W_mix2 {id : Nat} {l : List Oper} (K X : List Res) (wr tc stab : List (List Nat)) (hw : Wd Γ (K ++ X) w) (h : MSw (mV P n l Γ K wr tc stab) (fun ρ w => QQ .normal ρ w) 0 l ⟨ρ, ML [fun _ => X, fun _ => []]⟩) (hs : stab.length = 2 := by exact rfl)
    (hm : P.follows .mixedOrders = true := by kernel_rfl) (hk : checkM n l wr tc stab = true := by kernel_rfl) : W P n (.region id l.toArray true) QQ ρ w :=
  W_mixed K [fun _ => X, fun _ => []] wr tc stab (by
    have e : (List.range stab.length).flatMap (fun x => (ML [fun _ => X, fun _ => []]) x (ovr (stab.getD x []) ρ noFr)) = X := by
      rw [hs]
      show X ++ ([] ++ []) = X
      simp
    rw [e]; exact hw) h hm hk

/-- A store into a block of the cell c. -/
theorem mStoreC {c b o j m : Nat} {cs : Array Value} {E : TypeId} {vs : List Value} {X : List Res} [hn : TSz P T m] (h : MSw (mV P n ops Γ K wr tc stab) Q (i + 1) rest ⟨ρ, setC M c fun _ => X.set j (.blk b (.cells (putCells cs o vs) E))⟩)
    (ht : tc.getD i [] = [c] := by exact rfl) (hM : M c = (fun _ => X) := by exact rfl) (hj : X[j]? = some (.blk b (.cells cs E)) := by first | exact (rfl : (_ : List Res)[0]? = _) | exact (rfl : (_ : List Res)[1]? = _) | exact (rfl : (_ : List Res)[2]? = _) | exact (rfl : (_ : List Res)[3]? = _) | exact (rfl : (_ : List Res)[4]? = _) | exact (rfl : (_ : List Res)[5]? = _) | exact (rfl : (_ : List Res)[6]? = _) | exact (rfl : (_ : List Res)[7]? = _)) (hw0 : wr.getD i [] = [c] := by exact rfl) (hx : ∀ g, ev (ovr stab.flatten g ρ) x = .pointer (some ⟨b, o, none⟩) := by intro g; exact rfl)
    (hy : ∀ g, ev (ovr stab.flatten g ρ) y = v := by intro g; exact (by first | exact (rfl : _ = Value.int _ _) | exact (rfl : _ = Value.bool _) | exact (rfl : _ = Value.string _) | exact (rfl : _ = Value.slice _ _ _) | exact (rfl : _ = Value.pointer _) | exact (rfl : _ = Value.agg _) | exact (rfl : _ = Value.map _) | exact (rfl : _ = Value.tuple _) | exact (rfl : _ = Value.func _ _ _) | exact (rfl : _ = gv _ _) | exact rfl)) (hv : v.cells.toList = vs := by exact rfl) (hl : vs.length = m := by exact rfl) (h1 : vs.all (·.oneCell') = true := by exact rfl) (ho : o + m ≤ cs.size := by exact Nat.le_of_ble_eq_true rfl) :
    MSw (mV P n ops Γ K wr tc stab) Q i (⟨none, .store T x y, ty, pos, es, none⟩ :: rest) ⟨ρ, M⟩ := by
  refine mM (v := undef) _ (fun Y w g hw => ?_) h hw0 rfl
  have e : ∀ M', cellsAt tc stab i M' g = M' c (ovr (stab.getD c []) g noFr) := fun M' => by
    unfold cellsAt; rw [ht]; simp
  rw [e, hM] at hw
  have hjl : j < X.length := (List.getElem?_eq_some_iff.1 hj).1
  refine s_store hn.h hw (hx g) (hy g) hv hl (fun u hu => (List.all_eq_true.1 h1) u hu) (i := K.length + j) (by rw [List.getElem?_append_right (Nat.le_add_right _ _), Nat.add_sub_cancel_left, List.getElem?_append_left hjl]; exact hj) ho fun w' hw' => ⟨?_, fun _ => rfl⟩
  have e2 : cellsAt tc stab i (setC M c fun _ => X.set j (.blk b (.cells (putCells cs o vs) E))) (putO g none undef) = X.set j (.blk b (.cells (putCells cs o vs) E)) := by
    unfold cellsAt; rw [ht]; simp [setC_self]
  rw [e2]
  rw [List.set_append_right _ _ (Nat.le_add_right _ _), Nat.add_sub_cancel_left, List.set_append_left _ _ hjl] at hw'
  exact hw'

theorem cells1 {c : Nat} {g : Fr} (ht : tc.getD i [] = [c]) (M : Nat → Fr → List Res) : cellsAt tc stab i M g = M c (ovr (stab.getD c []) g noFr) := by unfold cellsAt; rw [ht]; simp
theorem cells2 {c c2 : Nat} {g : Fr} (ht : tc.getD i [] = [c, c2]) (M : Nat → Fr → List Res) : cellsAt tc stab i M g = M c (ovr (stab.getD c []) g noFr) ++ M c2 (ovr (stab.getD c2 []) g noFr) := by unfold cellsAt; rw [ht]; simp
theorem setC_other {c c' : Nat} {m : Fr → List Res} (h : c' ≠ c) : setC M c m c' = M c' := by simp [setC, h]

/-- A key is taken out of a map in the cell c. -/
theorem mDelS {c b j : Nat} {β : Type} {f : β → Value} {l : List (ByteArray × β)} {a : ByteArray} {X : List Res} {KT ET : TypeId} [hMp : TMap P T KT ET] [hK : TStr P KT] (h : MSw (mV P n ops Γ K wr tc stab) Q (i + 1) rest ⟨putO ρ d (.tuple #[]), setC M c fun _ => X.set j (Res.ms f b (aDel l a))⟩)
    (ht : tc.getD i [] = [c] := by exact rfl) (hM : M c = (fun _ => X) := by exact rfl) (hj : X[j]? = some (Res.ms f b l) := by first | exact (rfl : (_ : List Res)[0]? = _) | exact (rfl : (_ : List Res)[1]? = _) | exact (rfl : (_ : List Res)[2]? = _) | exact (rfl : (_ : List Res)[3]? = _) | exact (rfl : (_ : List Res)[4]? = _) | exact (rfl : (_ : List Res)[5]? = _) | exact (rfl : (_ : List Res)[6]? = _) | exact (rfl : (_ : List Res)[7]? = _)) (hw0 : wr.getD i [] = [c] := by exact rfl) (hst : outOf tc stab i d = true := by exact rfl) (hx : ∀ g, ev (ovr stab.flatten g ρ) x = .map (some b) := by intro g; exact rfl) (hy : ∀ g, ev (ovr stab.flatten g ρ) y = .string a := by intro g; exact rfl) :
    MSw (mV P n ops Γ K wr tc stab) Q i (⟨d, .call { callee := .builtin .delete, args := #[x, y], argTypes := #[T, U] }, ty, pos, es, none⟩ :: rest) ⟨ρ, M⟩ := by
  refine mM (v := .tuple #[]) _ (fun Y w g hw => ?_) h hw0 rfl
  rw [cells1 ht, hM] at hw
  have hjl : j < X.length := (List.getElem?_eq_some_iff.1 hj).1
  refine s_delS hw (hx g) (hy g) (i := K.length + j) (by rw [List.getElem?_append_right (Nat.le_add_right _ _), Nat.add_sub_cancel_left, List.getElem?_append_left hjl]; exact hj) fun w' hw' => ⟨?_, fun _ => rfl⟩
  rw [outOf_eq hst, cells1 ht, setC_self]
  rw [List.set_append_right _ _ (Nat.le_add_right _ _), Nat.add_sub_cancel_left, List.set_append_left _ _ hjl] at hw'
  exact hw'
/-- A key is put into a map in the cell c. -/
theorem mPutS {c b j : Nat} {β : Type} {f : β → Value} {l : List (ByteArray × β)} {a : ByteArray} {v : β} {X : List Res} {KT ET : TypeId} [hMp : TMap P T KT ET] [hK : TStr P KT] (h : MSw (mV P n ops Γ K wr tc stab) Q (i + 1) rest ⟨ρ, setC M c fun _ => X.set j (Res.ms f b (aSet l a v))⟩)
    (ht : tc.getD i [] = [c] := by exact rfl) (hM : M c = (fun _ => X) := by exact rfl) (hj : X[j]? = some (Res.ms f b l) := by first | exact (rfl : (_ : List Res)[0]? = _) | exact (rfl : (_ : List Res)[1]? = _) | exact (rfl : (_ : List Res)[2]? = _) | exact (rfl : (_ : List Res)[3]? = _) | exact (rfl : (_ : List Res)[4]? = _) | exact (rfl : (_ : List Res)[5]? = _) | exact (rfl : (_ : List Res)[6]? = _) | exact (rfl : (_ : List Res)[7]? = _)) (hw0 : wr.getD i [] = [c] := by exact rfl) (hx : ∀ g, ev (ovr stab.flatten g ρ) x = .map (some b) := by intro g; exact rfl) (hy : ∀ g, ev (ovr stab.flatten g ρ) y = .string a := by intro g; exact rfl) (hz : ∀ g, ev (ovr stab.flatten g ρ) z = f v := by intro g; exact rfl) :
    MSw (mV P n ops Γ K wr tc stab) Q i (⟨none, .mapUpdate T x y z, ty, pos, es, none⟩ :: rest) ⟨ρ, M⟩ := by
  refine mM (v := undef) _ (fun Y w g hw => ?_) h hw0 rfl
  rw [cells1 ht, hM] at hw
  have hjl : j < X.length := (List.getElem?_eq_some_iff.1 hj).1
  refine s_mapUpdS hw (hx g) (hy g) (hz g) (i := K.length + j) (by rw [List.getElem?_append_right (Nat.le_add_right _ _), Nat.add_sub_cancel_left, List.getElem?_append_left hjl]; exact hj) fun w' hw' => ⟨?_, fun _ => rfl⟩
  rw [cells1 ht, setC_self]
  rw [List.set_append_right _ _ (Nat.le_add_right _ _), Nat.add_sub_cancel_left, List.set_append_left _ _ hjl] at hw'
  exact hw'
/-- A slice literal, in a cell of its own. -/
theorem mBuild {c dd E by' len sz : Nat} {zs : List Value} {parts : Array (Nat × Operand)} {cells : List Value} (rws : List (List Value)) [TL P T E sz by' zs] (h : MSw (mV P n ops Γ K wr tc stab) Q (i + 1) rest ⟨putO ρ (some dd) undef, setC M c fun g => [.own (g dd) E sz rws]⟩)
    (hf : ∀ g, fillL (fun i => some (i * sz, sz)) ((List.range (len * sz)).map fun i => zs.getD (i % sz) undef) (parts.toList.map fun p => (p.1, ev (ovr stab.flatten g ρ) p.2)) = some cells := by intro g; exact rfl)
    (ht : tc.getD i [] = [c] := by exact rfl) (hM : M c = (fun _ => []) := by exact rfl) (hs : (stab.getD c []).contains dd = true := by exact rfl) (hfr : freeD stab (some dd) = true := by exact rfl) (hw0 : wr.getD i [] = [c] := by exact rfl)
    (hrw : rws.flatten = cells := by exact rfl) (hlen : rws.length = len := by exact rfl) (hr : rws.all (fun r => Nat.beq r.length sz) = true := by exact rfl) (hbig : Nat.ble (len * sz) 16777216 = true := by exact rfl) :
    MSw (mV P n ops Γ K wr tc stab) Q i (⟨some dd, .buildSlice T len parts, ty, pos, es, none⟩ :: rest) ⟨ρ, M⟩ := by
  refine mM (v := undef) _ (fun Y w g hw => ?_) h hw0 rfl
  rw [cells1 ht, hM] at hw
  refine s_buildSlice (rws := rws) hw (hf g) hrw hlen (fun r hm => Nat.eq_of_beq_eq_true ((List.all_eq_true.1 hr) r hm)) (Nat.le_of_ble_eq_true hbig) fun a w' hw' => ⟨?_, fun hh => by rw [hfr] at hh; cases hh⟩
  rw [cells1 ht, setC_self]
  have h1 : ovr (stab.getD c []) (putO g (some dd) (.slice (some a) len len)) noFr dd = .slice (some a) len len := by
    rw [ovr_in (by simpa using hs)]; exact upd_same _ _ _
  rw [h1]
  exact Wd.unmid hw'
/-- An append onto the j-th resource of the cell c, of what lies in the cell c2. -/
theorem mApp {c c2 dd dy j E by' sz m cc : Nat} {zs : List Value} {a : Option Addr} {rows rows2 : List (List Value)} {X : List Res} [TL P T E sz by' zs] (h : MSw (mV P n ops Γ K wr tc stab) Q (i + 1) rest ⟨putO ρ (some dd) undef, setC M c fun g => X.set j (.own (g dd) E sz (rows ++ rows2))⟩)
    (hx : ∀ g, ev (ovr stab.flatten g ρ) x = .slice a m cc := by intro g; exact rfl) (ht : tc.getD i [] = [c, c2] := by exact rfl) (hM : M c = (fun _ => X) := by exact rfl) (hM2 : M c2 = (fun g => [.own (g dy) E sz rows2]) := by exact rfl) (hj : X[j]? = some (.own (.slice a m cc) E sz rows) := by first | exact (rfl : (_ : List Res)[0]? = _) | exact (rfl : (_ : List Res)[1]? = _) | exact (rfl : (_ : List Res)[2]? = _) | exact (rfl : (_ : List Res)[3]? = _) | exact (rfl : (_ : List Res)[4]? = _) | exact (rfl : (_ : List Res)[5]? = _) | exact (rfl : (_ : List Res)[6]? = _) | exact (rfl : (_ : List Res)[7]? = _))
    (hs : (stab.getD c []).contains dd = true := by exact rfl) (hs2 : (stab.getD c2 []).contains dy = true := by exact rfl) (hfr : freeD stab (some dd) = true := by exact rfl) (hfy : stab.flatten.contains dy = true := by exact rfl) (hne : Nat.beq dy dd = false := by exact rfl) (hcc : Nat.beq c2 c = false := by exact rfl) (hw0 : wr.getD i [] = [c] := by exact rfl)
    (h1 : rows2.flatten.all (·.oneCell') = true := by exact rfl) (hb : (m + rows2.length) * by' ≤ 140737488355328 := by (simp only [List.length_cons, List.length_nil]; omega)) (h63 : m + rows2.length ≤ 9223372036854775807 := by (simp only [List.length_cons, List.length_nil]; omega)) :
    MSw (mV P n ops Γ K wr tc stab) Q i (⟨some dd, .call { callee := .builtin .append, args := #[x, .tmp dy], argTypes := #[T, T] }, ty, pos, es, none⟩ :: rest) ⟨ρ, M⟩ := by
  refine mM (v := undef) _ (fun Y w g hw => ?_) h hw0 rfl
  have hyd : dy ≠ dd := fun e => by subst e; simp at hne
  have hcd : c2 ≠ c := fun e => by subst e; simp at hcc
  rw [cells2 ht, hM, hM2] at hw
  have h2 : ∀ f : Fr, ovr (stab.getD c2 []) f noFr dy = f dy := fun f => ovr_in (by simpa using hs2)
  simp only [h2] at hw
  have hjl : j < X.length := (List.getElem?_eq_some_iff.1 hj).1
  have hi1 : (K ++ (X ++ [.own (g dy) E sz rows2] ++ Y))[K.length + j]? = some (.own (.slice a m cc) E sz rows) := by
    rw [List.getElem?_append_right (Nat.le_add_right _ _), Nat.add_sub_cancel_left, List.append_assoc, List.getElem?_append_left hjl]; exact hj
  have hi2 : (K ++ (X ++ [.own (g dy) E sz rows2] ++ Y))[K.length + X.length]? = some (.own (g dy) E sz rows2) := by
    rw [List.getElem?_append_right (Nat.le_add_right _ _), Nat.add_sub_cancel_left, List.append_assoc, List.getElem?_append_right (Nat.le_refl _)]; simp
  obtain ⟨a2, m2, c3, e1, e2, e3, e4⟩ := hw.own_shape hi2
  have hrd : Rd w a2 sz rows2 := by
    have hw2 := hw
    have hi3 := hi2
    rw [e1] at hw2 hi3
    exact hw2.own_rd hi3
  have hy : ev (ovr stab.flatten g ρ) (.tmp dy) = .slice a2 m2 c3 := by
    show ovr stab.flatten g ρ dy = _
    rw [ovr_in (by simpa using hfy)]; exact e1
  refine s_append hw (hx g) hy hi1 hrd e2 (fun u hu => (List.all_eq_true.1 h1) u hu) (by rw [e2]; exact hb) (by rw [e2]; exact h63) fun v' w' hw' => ⟨?_, fun hh => by rw [hfr] at hh; cases hh⟩
  rw [cells2 ht, setC_self, setC_other hcd, hM2]
  have h3 : ovr (stab.getD c []) (putO g (some dd) v') noFr dd = v' := by
    rw [ovr_in (by simpa using hs)]; exact upd_same _ _ _
  have h4 : putO g (some dd) v' dy = g dy := upd_ne _ _ hyd
  simp only [h2, h3, h4]
  rw [List.append_assoc, List.set_append_right _ _ (Nat.le_add_right _ _), Nat.add_sub_cancel_left, List.set_append_left _ _ hjl] at hw'
  rw [List.append_assoc]
  exact hw'
/-- The slice that an append has made is stored into a block of its cell. -/
theorem mStoreV {c b o j j2 dv E2 sz2 : Nat} {cs : Array Value} {E : TypeId} {rows : List (List Value)} {X : Fr → List Res} [hn : TSz P T 1] (h : MSw (mV P n ops Γ K wr tc stab) Q (i + 1) rest ⟨ρ, setC M c fun g => (X g).set j (.blk b (.cells (putCells cs o [g dv]) E))⟩)
    (ht : tc.getD i [] = [c] := by exact rfl) (hM : M c = X := by exact rfl) (hj : ∀ g, (X g)[j]? = some (.blk b (.cells cs E)) := by intro g; exact (by first | exact (rfl : (_ : List Res)[0]? = _) | exact (rfl : (_ : List Res)[1]? = _) | exact (rfl : (_ : List Res)[2]? = _) | exact (rfl : (_ : List Res)[3]? = _) | exact (rfl : (_ : List Res)[4]? = _) | exact (rfl : (_ : List Res)[5]? = _) | exact (rfl : (_ : List Res)[6]? = _) | exact (rfl : (_ : List Res)[7]? = _))) (hj2 : ∀ g, (X g)[j2]? = some (.own (g dv) E2 sz2 rows) := by intro g; exact (by first | exact (rfl : (_ : List Res)[0]? = _) | exact (rfl : (_ : List Res)[1]? = _) | exact (rfl : (_ : List Res)[2]? = _) | exact (rfl : (_ : List Res)[3]? = _) | exact (rfl : (_ : List Res)[4]? = _) | exact (rfl : (_ : List Res)[5]? = _) | exact (rfl : (_ : List Res)[6]? = _) | exact (rfl : (_ : List Res)[7]? = _))) (hw0 : wr.getD i [] = [c] := by exact rfl) (hx : ∀ g, ev (ovr stab.flatten g ρ) x = .pointer (some ⟨b, o, none⟩) := by intro g; exact rfl)
    (hs : (stab.getD c []).contains dv = true := by exact rfl) (hfv : stab.flatten.contains dv = true := by exact rfl) (ho : o + 1 ≤ cs.size := by exact Nat.le_of_ble_eq_true rfl) :
    MSw (mV P n ops Γ K wr tc stab) Q i (⟨none, .store T x (.tmp dv), ty, pos, es, none⟩ :: rest) ⟨ρ, M⟩ := by
  refine mM (v := undef) _ (fun Y w g hw => ?_) h hw0 rfl
  rw [cells1 ht, hM] at hw
  have hy : ev (ovr stab.flatten g ρ) (.tmp dv) = g dv := ovr_in (by simpa using hfv)
  have hg : ovr (stab.getD c []) g noFr dv = g dv := ovr_in (by simpa using hs)
  have hjl : j < (X (ovr (stab.getD c []) g noFr)).length := (List.getElem?_eq_some_iff.1 (hj _)).1
  have hjl2 : j2 < (X (ovr (stab.getD c []) g noFr)).length := (List.getElem?_eq_some_iff.1 (hj2 _)).1
  obtain ⟨a2, m2, c3, e1, -, -, -⟩ := hw.own_shape (i := K.length + j2) (v := g dv) (e := E2) (sz := sz2) (rows := rows) (by
    rw [List.getElem?_append_right (Nat.le_add_right _ _), Nat.add_sub_cancel_left, List.getElem?_append_left hjl2, hj2, hg])
  refine s_store hn.h hw (hx g) hy (vs := [g dv]) (by rw [e1]; rfl) rfl (fun u hu => by simp at hu; subst hu; rw [e1]; rfl) (i := K.length + j) (by rw [List.getElem?_append_right (Nat.le_add_right _ _), Nat.add_sub_cancel_left, List.getElem?_append_left hjl]; exact hj _) ho fun w' hw' => ⟨?_, fun _ => rfl⟩
  rw [cells1 ht, setC_self]
  rw [List.set_append_right _ _ (Nat.le_add_right _ _), Nat.add_sub_cancel_left, List.set_append_left _ _ hjl] at hw'
  simp only [putO, hg]
  exact hw'
end
section
variable {P : Program} {n : Nat} {opa : Array Oper} {Γ : Gho} {S : List Res} {QQ : Exit → Fr → World → Prop} {ρ : Fr} {w : World} {rest : List Oper} {j dj : Nat} {want c : Bool}
variable {d : Option Tmp} {op : Op} {T U ty : TypeId} {pos : String} {es : Array Edge} {x y z : Operand}
attribute [local semireducible] L Step gv GuardIs
/-- A guard that is known: it is taken off, or the operation is passed by. -/
theorem lGT (h : L P n opa QQ (⟨d, op, ty, pos, es, none⟩ :: rest) ρ w) (hj : (opa[j]?).bind (·.dst) = some dj := by exact rfl) (hjn : okDst n (some dj) = true := by exact rfl) (hc : GuardIs (ρ dj) want c := by first | exact GuardIs.t | exact GuardIs.f | exact GuardIs.gt | exact GuardIs.gf) (hct : c = true := by with_reducible rfl) : L P n opa QQ (⟨d, op, ty, pos, es, some (j, want)⟩ :: rest) ρ w := fun a hda hs hf => by
  subst hct
  have h1 := h a hda hs hf
  have hw := wanted_fn (⟨d, op, ty, pos, es, some (j, want)⟩ : Oper) opa a j want rfl dj hj (by rw [hs]; exact okDst_spec hjn _ rfl)
  subst hf
  rw [show (saysB (fnOf a dj) == some want) = true from hc] at hw
  unfold wpList at h1 ⊢
  rw [if_pos hw]
  rw [if_pos (by simp [Region.wanted])] at h1
  exact h1
theorem lGF (h : L P n opa QQ rest (putO ρ d undef) w) (hj : (opa[j]?).bind (·.dst) = some dj := by exact rfl) (hjn : okDst n (some dj) = true := by exact rfl) (hd : okDst n d = true := by exact rfl) (hc : GuardIs (ρ dj) want c := by first | exact GuardIs.t | exact GuardIs.f | exact GuardIs.gt | exact GuardIs.gf) (hct : c = false := by with_reducible rfl) : L P n opa QQ (⟨d, op, ty, pos, es, some (j, want)⟩ :: rest) ρ w := fun a hda hs hf => by
  subst hct
  have hw := wanted_fn (⟨d, op, ty, pos, es, some (j, want)⟩ : Oper) opa a j want rfl dj hj (by rw [hs]; exact okDst_spec hjn _ rfl)
  subst hf
  rw [show (saysB (fnOf a dj) == some want) = false from hc] at hw
  unfold wpList
  rw [if_neg (by rw [hw]; simp)]
  exact h _ (by rw [defers_put]; exact hda) (by rw [size_put]; exact hs) (fnOf_putO a _ _ (by rw [hs]; exact okDst_spec hd))
theorem lGC (hj : (opa[j]?).bind (·.dst) = some dj) (hjn : okDst n (some dj) = true) (hd : okDst n d = true) (hc : GuardIs (ρ dj) want c) (ht : c = true → L P n opa QQ (⟨d, op, ty, pos, es, none⟩ :: rest) ρ w) (hf : c = false → L P n opa QQ rest (putO ρ d undef) w) : L P n opa QQ (⟨d, op, ty, pos, es, some (j, want)⟩ :: rest) ρ w := by
  cases hcc : c with
  | true => exact lGT (ht hcc) hj hjn hc hcc
  | false => exact lGF (hf hcc) hj hjn hd hc hcc
theorem L_bin {bo : BinOp} (h : L P n opa QQ (⟨d, .binOp bo T x y U, ty, pos, es, none⟩ :: rest) ρ w) : L P n opa QQ (⟨d, .binOp bo T x y U, ty, pos, es, none⟩ :: rest) ρ w := h
theorem L_notop (h : L P n opa QQ (⟨d, .unOp .not T x, ty, pos, es, none⟩ :: rest) ρ w) : L P n opa QQ (⟨d, .unOp .not T x, ty, pos, es, none⟩ :: rest) ρ w := h
/-- A test whose answer is known. -/
theorem lT {b : Bool} {o : Oper} (hb : b = true) (h : L P n opa QQ rest (putO ρ o.dst (.bool true)) w) (hg : o.guard = none := by exact rfl) (hd : okDst n o.dst = true := by exact rfl) (hw : Wd Γ S w := by exact hw) (hy : Yields P o ρ w (.bool b) := by first | (apply m_move; exact y_move (by first | exact (rfl : _ = Value.int _ _) | exact (rfl : _ = Value.bool _) | exact (rfl : _ = Value.string _) | exact (rfl : _ = Value.slice _ _ _) | exact (rfl : _ = Value.pointer _) | exact (rfl : _ = Value.agg _) | exact (rfl : _ = Value.map _) | exact (rfl : _ = Value.tuple _) | exact (rfl : _ = Value.func _ _ _) | exact (rfl : _ = gv _ _) | exact rfl)) | (apply m_assign; exact y_assign (by first | exact (rfl : _ = Value.int _ _) | exact (rfl : _ = Value.bool _) | exact (rfl : _ = Value.string _) | exact (rfl : _ = Value.slice _ _ _) | exact (rfl : _ = Value.pointer _) | exact (rfl : _ = Value.agg _) | exact (rfl : _ = Value.map _) | exact (rfl : _ = Value.tuple _) | exact (rfl : _ = Value.func _ _ _) | exact (rfl : _ = gv _ _) | exact rfl)) | (apply g_bin; first | (apply m_op .eql; first | exact y_eql rfl rfl | exact y_eqls rfl rfl | exact y_eqT rfl rfl rfl | exact y_eqB rfl rfl | exact y_eqnS rfl rfl | exact y_eqnP rfl rfl | exact y_eqnM rfl rfl) | (apply m_op .lss; first | exact y_lss rfl rfl | exact y_lssS rfl rfl) | (apply m_op .neq; first | exact y_neq rfl rfl | exact y_neqs rfl rfl | exact y_neqT rfl rfl rfl | exact y_neqnS rfl rfl | exact y_neqnP rfl rfl) | (apply m_op .leq; first | exact y_leq rfl rfl | exact y_leqS rfl rfl) | (apply m_op .gtr; first | exact y_gtr rfl rfl | exact y_gtrS rfl rfl) | (apply m_op .geq; first | exact y_geq rfl rfl | exact y_geqS rfl rfl) | (apply m_op .add; first | exact y_add64 rfl rfl (by omega) (by omega) | exact y_add rfl rfl | exact y_addS rfl rfl (by omega)) | (apply m_op .sub; first | exact y_sub64 rfl rfl (by omega) (by omega) | exact y_sub rfl rfl) | (apply m_op .mul; first | exact y_mul64 rfl rfl (by omega) (by omega) | exact y_mul rfl rfl) | (apply m_op .rem; exact y_rem rfl rfl (by omega)) | (apply m_op .quo; exact y_quo rfl rfl (by omega)) | (apply m_op .shl; exact y_shl rfl rfl (by omega)) | (apply m_op .shr; exact y_shr rfl rfl (by omega)) | (apply m_op .and; exact y_and rfl rfl) | (apply m_op .or; exact y_or rfl rfl) | (apply m_op .xor; exact y_xor rfl rfl) | (apply m_op .andNot; exact y_andNot rfl rfl)) | (apply m_loadS; first | exact y_l1b (i := 0) hw rfl rfl rfl | exact y_l1b (i := 1) hw rfl rfl rfl | exact y_l1b (i := 2) hw rfl rfl rfl | exact y_l1b (i := 3) hw rfl rfl rfl | exact y_l1b (i := 4) hw rfl rfl rfl | exact y_l1b (i := 5) hw rfl rfl rfl | exact y_l1b (i := 6) hw rfl rfl rfl | exact y_loadEf rfl (RepS.rd (by assumption) hw) (rows_map (by assumption)) rfl | exact y_loadEf2 rfl (RepS.rd (by assumption) hw) (rows_map (by assumption)) rfl | exact y_loadE1 rfl (RepS.rd (by assumption) hw) (rows_map (by assumption)) | exact y_loadEf rfl (RdS.rd (by assumption) hw) (rows_map (by assumption)) rfl | exact y_loadEf2 rfl (RdS.rd (by assumption) hw) (rows_map (by assumption)) rfl | exact y_loadE1 rfl (RdS.rd (by assumption) hw) (rows_map (by assumption)) | exact y_loadEf rfl (RdS.rd (by assumption) hw.left) (rows_map (by assumption)) rfl | exact y_loadEf2 rfl (RdS.rd (by assumption) hw.left) (rows_map (by assumption)) rfl | exact y_loadE1 rfl (RdS.rd (by assumption) hw.left) (rows_map (by assumption)) | exact y_loadEf rfl (Wd.own_rd (i := 0) hw rfl) (rows_map (by assumption)) rfl | exact y_loadEf2 rfl (Wd.own_rd (i := 0) hw rfl) (rows_map (by assumption)) rfl | exact y_loadE1 rfl (Wd.own_rd (i := 0) hw rfl) (rows_map (by assumption)) | exact y_loadEf rfl (Wd.own_rd (i := 1) hw rfl) (rows_map (by assumption)) rfl | exact y_loadEf2 rfl (Wd.own_rd (i := 1) hw rfl) (rows_map (by assumption)) rfl | exact y_loadE1 rfl (Wd.own_rd (i := 1) hw rfl) (rows_map (by assumption)) | exact y_loadEf rfl (Wd.own_rd (i := 2) hw rfl) (rows_map (by assumption)) rfl | exact y_loadEf2 rfl (Wd.own_rd (i := 2) hw rfl) (rows_map (by assumption)) rfl | exact y_loadE1 rfl (Wd.own_rd (i := 2) hw rfl) (rows_map (by assumption)) | exact y_loadEf rfl (Wd.own_rd (i := 3) hw rfl) (rows_map (by assumption)) rfl | exact y_loadEf2 rfl (Wd.own_rd (i := 3) hw rfl) (rows_map (by assumption)) rfl | exact y_loadE1 rfl (Wd.own_rd (i := 3) hw rfl) (rows_map (by assumption))) | (apply m_loadA; first | exact y_lwb (i := 0) hw rfl rfl rfl | exact y_lwb (i := 1) hw rfl rfl rfl | exact y_lwb (i := 2) hw rfl rfl rfl | exact y_lwb (i := 3) hw rfl rfl rfl | exact y_lwb (i := 4) hw rfl rfl rfl | exact y_lwb (i := 5) hw rfl rfl rfl | exact y_lwb (i := 6) hw rfl rfl rfl | exact y_loadE rfl (RepS.rd (by assumption) hw) (rows_map (by assumption)) | exact y_loadEsub rfl (RepS.rd (by assumption) hw) (rows_map (by assumption)) rfl rfl | exact y_loadE rfl (RdS.rd (by assumption) hw) (rows_map (by assumption)) | exact y_loadEsub rfl (RdS.rd (by assumption) hw) (rows_map (by assumption)) rfl rfl | exact y_loadE rfl (RdS.rd (by assumption) hw.left) (rows_map (by assumption)) | exact y_loadEsub rfl (RdS.rd (by assumption) hw.left) (rows_map (by assumption)) rfl rfl | exact y_loadE rfl (Wd.own_rd (i := 0) hw rfl) (rows_map (by assumption)) | exact y_loadEsub rfl (Wd.own_rd (i := 0) hw rfl) (rows_map (by assumption)) rfl rfl | exact y_loadE rfl (Wd.own_rd (i := 1) hw rfl) (rows_map (by assumption)) | exact y_loadEsub rfl (Wd.own_rd (i := 1) hw rfl) (rows_map (by assumption)) rfl rfl | exact y_loadE rfl (Wd.own_rd (i := 2) hw rfl) (rows_map (by assumption)) | exact y_loadEsub rfl (Wd.own_rd (i := 2) hw rfl) (rows_map (by assumption)) rfl rfl | exact y_loadE rfl (Wd.own_rd (i := 3) hw rfl) (rows_map (by assumption)) | exact y_loadEsub rfl (Wd.own_rd (i := 3) hw rfl) (rows_map (by assumption)) rfl rfl | exact y_lpb (i := 0) hw rfl rfl rfl rfl | exact y_lpb (i := 1) hw rfl rfl rfl rfl | exact y_lpb (i := 2) hw rfl rfl rfl rfl | exact y_lpb (i := 3) hw rfl rfl rfl rfl | exact y_lpb (i := 4) hw rfl rfl rfl rfl | exact y_lpb (i := 5) hw rfl rfl rfl rfl | exact y_lpb (i := 6) hw rfl rfl rfl rfl) | (apply m_field; exact y_field rfl) | (apply g_idx; first | exact y_idxI hw (by assumption) rfl rfl (by omega) (by omega) | exact y_idxO (j := 0) hw rfl rfl rfl (by omega) (by omega) | exact y_idxO (j := 1) hw rfl rfl rfl (by omega) (by omega) | exact y_idxO (j := 2) hw rfl rfl rfl (by omega) (by omega) | exact y_idxO (j := 3) hw rfl rfl rfl (by omega) (by omega) | exact y_idxD (RdS.rd (by assumption) hw) rfl rfl (by omega) (by omega) | exact y_idxD (RdS.rd (by assumption) hw.left) rfl rfl (by omega) (by omega)) | (apply g_call; first | exact y_lenS rfl | exact y_lenL rfl | exact y_cap rfl | exact y_min2 rfl rfl | exact y_max2 rfl rfl | exact y_lenMs (i := 0) hw rfl rfl | exact y_lenMs (i := 1) hw rfl rfl | exact y_lenMs (i := 2) hw rfl rfl | exact y_lenMs (i := 3) hw rfl rfl | exact y_lenMs (i := 4) hw rfl rfl) | (apply m_pick; first | exact y_pick_and rfl rfl rfl | exact y_pick_or rfl rfl rfl | exact y_pickT rfl rfl | exact y_pickF rfl rfl) | (apply m_not; exact y_not rfl) | (apply m_extract; exact y_extract rfl rfl) | (apply m_nil; exact y_nil rfl) | (apply m_build; exact y_build rfl) | (apply m_index; exact y_idxS rfl rfl (by omega) (by omega)) | (apply m_lookup; first | exact y_lookupS2 (i := 0) hw rfl rfl rfl rfl | exact y_lookupS1 (i := 0) hw rfl rfl rfl rfl | exact y_lookupS2 (i := 1) hw rfl rfl rfl rfl | exact y_lookupS1 (i := 1) hw rfl rfl rfl rfl | exact y_lookupS2 (i := 2) hw rfl rfl rfl rfl | exact y_lookupS1 (i := 2) hw rfl rfl rfl rfl | exact y_lookupS2 (i := 3) hw rfl rfl rfl rfl | exact y_lookupS1 (i := 3) hw rfl rfl rfl rfl | exact y_lookupS2 (i := 4) hw rfl rfl rfl rfl | exact y_lookupS1 (i := 4) hw rfl rfl rfl rfl) | (apply m_slice; first | exact y_sliceL rfl rfl (by omega) (by omega) | exact y_sliceH rfl rfl (by omega) (by omega) | exact y_sliceLH rfl rfl rfl (by omega) (by omega) (by omega) | exact y_sliceLHM rfl rfl rfl rfl (by omega) (by omega) (by omega) (by omega) | exact y_sliceSLH rfl rfl rfl (by omega) (by omega) (by omega) | exact y_sliceSL rfl rfl (by omega) (by omega) | exact y_sliceSH rfl rfl (by omega) (by omega)) | (apply m_conv; exact y_convI rfl) | (apply m_neg; exact y_neg64 rfl (by omega) (by omega))) : L P n opa QQ (o :: rest) ρ w := L_y hg hd (by rw [hb] at hy; exact hy) h
theorem lF {b : Bool} {o : Oper} (hb : b = false) (h : L P n opa QQ rest (putO ρ o.dst (.bool false)) w) (hg : o.guard = none := by exact rfl) (hd : okDst n o.dst = true := by exact rfl) (hw : Wd Γ S w := by exact hw) (hy : Yields P o ρ w (.bool b) := by first | (apply m_move; exact y_move (by first | exact (rfl : _ = Value.int _ _) | exact (rfl : _ = Value.bool _) | exact (rfl : _ = Value.string _) | exact (rfl : _ = Value.slice _ _ _) | exact (rfl : _ = Value.pointer _) | exact (rfl : _ = Value.agg _) | exact (rfl : _ = Value.map _) | exact (rfl : _ = Value.tuple _) | exact (rfl : _ = Value.func _ _ _) | exact (rfl : _ = gv _ _) | exact rfl)) | (apply m_assign; exact y_assign (by first | exact (rfl : _ = Value.int _ _) | exact (rfl : _ = Value.bool _) | exact (rfl : _ = Value.string _) | exact (rfl : _ = Value.slice _ _ _) | exact (rfl : _ = Value.pointer _) | exact (rfl : _ = Value.agg _) | exact (rfl : _ = Value.map _) | exact (rfl : _ = Value.tuple _) | exact (rfl : _ = Value.func _ _ _) | exact (rfl : _ = gv _ _) | exact rfl)) | (apply g_bin; first | (apply m_op .eql; first | exact y_eql rfl rfl | exact y_eqls rfl rfl | exact y_eqT rfl rfl rfl | exact y_eqB rfl rfl | exact y_eqnS rfl rfl | exact y_eqnP rfl rfl | exact y_eqnM rfl rfl) | (apply m_op .lss; first | exact y_lss rfl rfl | exact y_lssS rfl rfl) | (apply m_op .neq; first | exact y_neq rfl rfl | exact y_neqs rfl rfl | exact y_neqT rfl rfl rfl | exact y_neqnS rfl rfl | exact y_neqnP rfl rfl) | (apply m_op .leq; first | exact y_leq rfl rfl | exact y_leqS rfl rfl) | (apply m_op .gtr; first | exact y_gtr rfl rfl | exact y_gtrS rfl rfl) | (apply m_op .geq; first | exact y_geq rfl rfl | exact y_geqS rfl rfl) | (apply m_op .add; first | exact y_add64 rfl rfl (by omega) (by omega) | exact y_add rfl rfl | exact y_addS rfl rfl (by omega)) | (apply m_op .sub; first | exact y_sub64 rfl rfl (by omega) (by omega) | exact y_sub rfl rfl) | (apply m_op .mul; first | exact y_mul64 rfl rfl (by omega) (by omega) | exact y_mul rfl rfl) | (apply m_op .rem; exact y_rem rfl rfl (by omega)) | (apply m_op .quo; exact y_quo rfl rfl (by omega)) | (apply m_op .shl; exact y_shl rfl rfl (by omega)) | (apply m_op .shr; exact y_shr rfl rfl (by omega)) | (apply m_op .and; exact y_and rfl rfl) | (apply m_op .or; exact y_or rfl rfl) | (apply m_op .xor; exact y_xor rfl rfl) | (apply m_op .andNot; exact y_andNot rfl rfl)) | (apply m_loadS; first | exact y_l1b (i := 0) hw rfl rfl rfl | exact y_l1b (i := 1) hw rfl rfl rfl | exact y_l1b (i := 2) hw rfl rfl rfl | exact y_l1b (i := 3) hw rfl rfl rfl | exact y_l1b (i := 4) hw rfl rfl rfl | exact y_l1b (i := 5) hw rfl rfl rfl | exact y_l1b (i := 6) hw rfl rfl rfl | exact y_loadEf rfl (RepS.rd (by assumption) hw) (rows_map (by assumption)) rfl | exact y_loadEf2 rfl (RepS.rd (by assumption) hw) (rows_map (by assumption)) rfl | exact y_loadE1 rfl (RepS.rd (by assumption) hw) (rows_map (by assumption)) | exact y_loadEf rfl (RdS.rd (by assumption) hw) (rows_map (by assumption)) rfl | exact y_loadEf2 rfl (RdS.rd (by assumption) hw) (rows_map (by assumption)) rfl | exact y_loadE1 rfl (RdS.rd (by assumption) hw) (rows_map (by assumption)) | exact y_loadEf rfl (RdS.rd (by assumption) hw.left) (rows_map (by assumption)) rfl | exact y_loadEf2 rfl (RdS.rd (by assumption) hw.left) (rows_map (by assumption)) rfl | exact y_loadE1 rfl (RdS.rd (by assumption) hw.left) (rows_map (by assumption)) | exact y_loadEf rfl (Wd.own_rd (i := 0) hw rfl) (rows_map (by assumption)) rfl | exact y_loadEf2 rfl (Wd.own_rd (i := 0) hw rfl) (rows_map (by assumption)) rfl | exact y_loadE1 rfl (Wd.own_rd (i := 0) hw rfl) (rows_map (by assumption)) | exact y_loadEf rfl (Wd.own_rd (i := 1) hw rfl) (rows_map (by assumption)) rfl | exact y_loadEf2 rfl (Wd.own_rd (i := 1) hw rfl) (rows_map (by assumption)) rfl | exact y_loadE1 rfl (Wd.own_rd (i := 1) hw rfl) (rows_map (by assumption)) | exact y_loadEf rfl (Wd.own_rd (i := 2) hw rfl) (rows_map (by assumption)) rfl | exact y_loadEf2 rfl (Wd.own_rd (i := 2) hw rfl) (rows_map (by assumption)) rfl | exact y_loadE1 rfl (Wd.own_rd (i := 2) hw rfl) (rows_map (by assumption)) | exact y_loadEf rfl (Wd.own_rd (i := 3) hw rfl) (rows_map (by assumption)) rfl | exact y_loadEf2 rfl (Wd.own_rd (i := 3) hw rfl) (rows_map (by assumption)) rfl | exact y_loadE1 rfl (Wd.own_rd (i := 3) hw rfl) (rows_map (by assumption))) | (apply m_loadA; first | exact y_lwb (i := 0) hw rfl rfl rfl | exact y_lwb (i := 1) hw rfl rfl rfl | exact y_lwb (i := 2) hw rfl rfl rfl | exact y_lwb (i := 3) hw rfl rfl rfl | exact y_lwb (i := 4) hw rfl rfl rfl | exact y_lwb (i := 5) hw rfl rfl rfl | exact y_lwb (i := 6) hw rfl rfl rfl | exact y_loadE rfl (RepS.rd (by assumption) hw) (rows_map (by assumption)) | exact y_loadEsub rfl (RepS.rd (by assumption) hw) (rows_map (by assumption)) rfl rfl | exact y_loadE rfl (RdS.rd (by assumption) hw) (rows_map (by assumption)) | exact y_loadEsub rfl (RdS.rd (by assumption) hw) (rows_map (by assumption)) rfl rfl | exact y_loadE rfl (RdS.rd (by assumption) hw.left) (rows_map (by assumption)) | exact y_loadEsub rfl (RdS.rd (by assumption) hw.left) (rows_map (by assumption)) rfl rfl | exact y_loadE rfl (Wd.own_rd (i := 0) hw rfl) (rows_map (by assumption)) | exact y_loadEsub rfl (Wd.own_rd (i := 0) hw rfl) (rows_map (by assumption)) rfl rfl | exact y_loadE rfl (Wd.own_rd (i := 1) hw rfl) (rows_map (by assumption)) | exact y_loadEsub rfl (Wd.own_rd (i := 1) hw rfl) (rows_map (by assumption)) rfl rfl | exact y_loadE rfl (Wd.own_rd (i := 2) hw rfl) (rows_map (by assumption)) | exact y_loadEsub rfl (Wd.own_rd (i := 2) hw rfl) (rows_map (by assumption)) rfl rfl | exact y_loadE rfl (Wd.own_rd (i := 3) hw rfl) (rows_map (by assumption)) | exact y_loadEsub rfl (Wd.own_rd (i := 3) hw rfl) (rows_map (by assumption)) rfl rfl | exact y_lpb (i := 0) hw rfl rfl rfl rfl | exact y_lpb (i := 1) hw rfl rfl rfl rfl | exact y_lpb (i := 2) hw rfl rfl rfl rfl | exact y_lpb (i := 3) hw rfl rfl rfl rfl | exact y_lpb (i := 4) hw rfl rfl rfl rfl | exact y_lpb (i := 5) hw rfl rfl rfl rfl | exact y_lpb (i := 6) hw rfl rfl rfl rfl) | (apply m_field; exact y_field rfl) | (apply g_idx; first | exact y_idxI hw (by assumption) rfl rfl (by omega) (by omega) | exact y_idxO (j := 0) hw rfl rfl rfl (by omega) (by omega) | exact y_idxO (j := 1) hw rfl rfl rfl (by omega) (by omega) | exact y_idxO (j := 2) hw rfl rfl rfl (by omega) (by omega) | exact y_idxO (j := 3) hw rfl rfl rfl (by omega) (by omega) | exact y_idxD (RdS.rd (by assumption) hw) rfl rfl (by omega) (by omega) | exact y_idxD (RdS.rd (by assumption) hw.left) rfl rfl (by omega) (by omega)) | (apply g_call; first | exact y_lenS rfl | exact y_lenL rfl | exact y_cap rfl | exact y_min2 rfl rfl | exact y_max2 rfl rfl | exact y_lenMs (i := 0) hw rfl rfl | exact y_lenMs (i := 1) hw rfl rfl | exact y_lenMs (i := 2) hw rfl rfl | exact y_lenMs (i := 3) hw rfl rfl | exact y_lenMs (i := 4) hw rfl rfl) | (apply m_pick; first | exact y_pick_and rfl rfl rfl | exact y_pick_or rfl rfl rfl | exact y_pickT rfl rfl | exact y_pickF rfl rfl) | (apply m_not; exact y_not rfl) | (apply m_extract; exact y_extract rfl rfl) | (apply m_nil; exact y_nil rfl) | (apply m_build; exact y_build rfl) | (apply m_index; exact y_idxS rfl rfl (by omega) (by omega)) | (apply m_lookup; first | exact y_lookupS2 (i := 0) hw rfl rfl rfl rfl | exact y_lookupS1 (i := 0) hw rfl rfl rfl rfl | exact y_lookupS2 (i := 1) hw rfl rfl rfl rfl | exact y_lookupS1 (i := 1) hw rfl rfl rfl rfl | exact y_lookupS2 (i := 2) hw rfl rfl rfl rfl | exact y_lookupS1 (i := 2) hw rfl rfl rfl rfl | exact y_lookupS2 (i := 3) hw rfl rfl rfl rfl | exact y_lookupS1 (i := 3) hw rfl rfl rfl rfl | exact y_lookupS2 (i := 4) hw rfl rfl rfl rfl | exact y_lookupS1 (i := 4) hw rfl rfl rfl rfl) | (apply m_slice; first | exact y_sliceL rfl rfl (by omega) (by omega) | exact y_sliceH rfl rfl (by omega) (by omega) | exact y_sliceLH rfl rfl rfl (by omega) (by omega) (by omega) | exact y_sliceLHM rfl rfl rfl rfl (by omega) (by omega) (by omega) (by omega) | exact y_sliceSLH rfl rfl rfl (by omega) (by omega) (by omega) | exact y_sliceSL rfl rfl (by omega) (by omega) | exact y_sliceSH rfl rfl (by omega) (by omega)) | (apply m_conv; exact y_convI rfl) | (apply m_neg; exact y_neg64 rfl (by omega) (by omega))) : L P n opa QQ (o :: rest) ρ w := L_y hg hd (by rw [hb] at hy; exact hy) h
end
/-- What is encoded is of one cell each. -/
theorem enc_one {α : Type} [GoT α] (a : α) : (enc a).all (·.oneCell') = true := by
  rw [List.all_eq_true]
  intro u hu
  have h : kOf u ∈ (GoT.ks α).map some := by rw [← GoT.kinds a]; exact List.mem_map.2 ⟨u, hu, rfl⟩
  obtain ⟨k, _, hk⟩ := List.mem_map.1 h
  cases u <;> simp [kOf] at hk <;> rfl
theorem encs_one {α : Type} [GoT α] (xs : List α) : (xs.map enc).flatten.all (·.oneCell') = true := by
  rw [List.all_eq_true]
  intro u hu
  obtain ⟨r, hr, hur⟩ := List.mem_flatten.1 hu
  obtain ⟨x, _, rfl⟩ := List.mem_map.1 hr
  exact (List.all_eq_true.1 (enc_one x)) u hur
section
end
end Mk
