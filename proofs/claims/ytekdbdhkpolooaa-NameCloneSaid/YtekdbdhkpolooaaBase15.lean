/- Slices that may be read (RdS), maps with string keys, and the steps of regions that draw their order and change memory. -/
import Derived.Test.YtekdbdhkpolooaaBase14
open Go
namespace Mk

/-- What a function needs of a slice that it only reads: where S is held, the rows lie there. -/
def RdS (Γ : Gho) (S : List Res) (v : Value) (sz : Nat) (rows : List (List Value)) : Prop :=
  ∃ a n c, v = .slice a n c ∧ n = rows.length ∧ n ≤ c ∧ c ≤ 9223372036854775807 ∧ ∀ w, Wd Γ S w → Rd w a sz rows

section
variable {P : Program} {Γ : Gho} {S : List Res} {w : World} {sz e : Nat} {rows : List (List Value)} {v : Value}
theorem RepS.rdS (h : RepS Γ v sz rows) : RdS Γ S v sz rows := by
  obtain ⟨a, n, c, rfl, h1, h2, h3⟩ := h.shape
  exact ⟨a, n, c, rfl, h1, h2, h3, fun w hw => h.rd hw⟩
theorem RdS.own {w0 : World} {i : Nat} (hw : Wd Γ S w0) (hi : S[i]? = some (.own v e sz rows)) : RdS Γ S v sz rows := by
  obtain ⟨a, n, c, rfl, h1, h2, h3⟩ := hw.own_shape hi
  exact ⟨a, n, c, rfl, h1, h2, h3, fun w hw => hw.own_rd hi⟩
theorem RdS.ownI {a : Option Addr} {n c i : Nat} (hi : S[i]? = some (.own (.slice a n c) e sz rows)) (h1 : n = rows.length) (h2 : n ≤ c) (h3 : c ≤ 9223372036854775807) : RdS Γ S (.slice a n c) sz rows :=
  ⟨a, n, c, rfl, h1, h2, h3, fun w hw => hw.own_rd hi⟩
theorem RdS.shape (h : RdS Γ S v sz rows) : ∃ a n c, v = .slice a n c ∧ n = rows.length ∧ n ≤ c ∧ c ≤ 9223372036854775807 := by
  obtain ⟨a, n, c, h1, h2, h3, h4, _⟩ := h
  exact ⟨a, n, c, h1, h2, h3, h4⟩
theorem RdS.rd {a : Option Addr} {n c : Nat} (h : RdS Γ S (.slice a n c) sz rows) (hw : Wd Γ S w) : Rd w a sz rows := by
  obtain ⟨a', n', c', h1, h2, h3, h4, h5⟩ := h
  cases h1
  exact h5 w hw
theorem RdS.cons {r : Res} (h : RdS Γ S v sz rows) : RdS Γ (r :: S) v sz rows := by
  obtain ⟨a, n, c, h1, h2, h3, h4, h5⟩ := h
  exact ⟨a, n, c, h1, h2, h3, h4, fun w hw => h5 w hw.drop⟩
theorem RdS.app {S' : List Res} (h : RdS Γ S v sz rows) : RdS Γ (S ++ S') v sz rows := by
  obtain ⟨a, n, c, h1, h2, h3, h4, h5⟩ := h
  exact ⟨a, n, c, h1, h2, h3, h4, fun w hw => h5 w hw.left⟩
end

section
variable {P : Program} {ρ : Fr} {w : World} {sz : Nat} {rows : List (List Value)} {d : Option Tmp} {T ty : TypeId} {pos : String} {es : Array Edge} {g : Option (Nat × Bool)} {x y : Operand}
theorem y_idxD {E by' : Nat} {zs : List Value} {a : Option Addr} {m c : Nat} {k : IntKind} {i : Int} [hT : TL P T E sz by' zs] (hr : Rd w a sz rows) (hx : ev ρ x = .slice a m c) (hy : ev ρ y = .int k i) (h0 : 0 ≤ i) (h1 : i < m) (hm : m = rows.length := by first | assumption | omega | (rw [List.length_map]; omega)) :
    Yields P ⟨d, .indexAddr T x y, ty, pos, es, g⟩ ρ w (.pointer (some ⟨aB a, aO a + i.toNat * sz, none⟩)) :=
  y_indexAddr hx hy h0 h1 (hr.at_ (by omega))
end

abbrev Res.ms {β : Type} (f : β → Value) (b : Nat) (l : List (ByteArray × β)) : Res := Res.mp b (l.map fun p => (.string p.1, f p.2))

section
variable {P : Program} {n : Nat} {opa : Array Oper} {Γ : Gho} {S : List Res} {QQ : Exit → Fr → World → Prop} {ρ : Fr} {w : World} {rest : List Oper} {KK : Value → World → Prop}
variable {d : Option Tmp} {T U ty K E : TypeId} {pos : String} {es : Array Edge} {g : Option (Nat × Bool)} {x y z : Operand} {v : Value} {β : Type} {f : β → Value} {b i : Nat} {a : ByteArray} {l : List (ByteArray × β)}

theorem y_lookupS2 [Inhabited β] {zz : Value} [hM : TMap P T K E] [hK : TStr P K] [hz : TZV P E zz] (hw : Wd Γ S w) (hx : ev ρ x = .map (some b)) (hy : ev ρ y = .string a) (hi : S[i]? = some (Res.ms f b l)) (hd : f default = zz) :
    Yields P ⟨d, .lookup T x y true, ty, pos, es, g⟩ ρ w (.tuple #[f ((aGet l a).getD default), .bool (aGet l a).isSome]) := by
  cases hg : aGet l a with
  | some u =>
    have := y_lookup_some (P := P) (K := K) (α := ByteArray) (d := d) (T := T) (ty := ty) (pos := pos) (es := es) (g := g) hw hx hy hi hg true
    simpa using this
  | none =>
    have := y_lookup_none (P := P) (K := K) (α := ByteArray) (d := d) (T := T) (ty := ty) (pos := pos) (es := es) (g := g) hw hx hy hi hg true
    simpa [hd] using this
theorem y_lookupS1 [Inhabited β] {zz : Value} [hM : TMap P T K E] [hK : TStr P K] [hz : TZV P E zz] (hw : Wd Γ S w) (hx : ev ρ x = .map (some b)) (hy : ev ρ y = .string a) (hi : S[i]? = some (Res.ms f b l)) (hd : f default = zz) :
    Yields P ⟨d, .lookup T x y false, ty, pos, es, g⟩ ρ w (f ((aGet l a).getD default)) := by
  cases hg : aGet l a with
  | some u =>
    have := y_lookup_some (P := P) (K := K) (α := ByteArray) (d := d) (T := T) (ty := ty) (pos := pos) (es := es) (g := g) hw hx hy hi hg false
    simpa using this
  | none =>
    have := y_lookup_none (P := P) (K := K) (α := ByteArray) (d := d) (T := T) (ty := ty) (pos := pos) (es := es) (g := g) hw hx hy hi hg false
    simpa [hd] using this
theorem y_lenMs [hM : TMap P T K E] [hK : TStr P K] (hw : Wd Γ S w) (hx : ev ρ x = .map (some b)) (hi : S[i]? = some (Res.ms f b l)) : Yields P ⟨d, .call { callee := .builtin .len, args := #[x], argTypes := #[T] }, ty, pos, es, g⟩ ρ w (.int .i64 l.length) :=
  y_lenM (P := P) (K := K) (α := ByteArray) hw hx hi
theorem s_mapUpdS {v : β} [hM : TMap P T K E] [hK : TStr P K] (hw : Wd Γ S w) (hx : ev ρ x = .map (some b)) (hy : ev ρ y = .string a) (hz : ev ρ z = f v) (hi : S[i]? = some (Res.ms f b l))
    (hk : ∀ w', Wd Γ (S.set i (Res.ms f b (aSet l a v))) w' → KK undef w') : Step P ⟨d, .mapUpdate T x y z, ty, pos, es, g⟩ ρ w KK :=
  s_mapUpdate (P := P) (K := K) (α := ByteArray) hw hx hy hz hi hk
theorem s_delS [hM : TMap P T K E] [hK : TStr P K] (hw : Wd Γ S w) (hx : ev ρ x = .map (some b)) (hy : ev ρ y = .string a) (hi : S[i]? = some (Res.ms f b l))
    (hk : ∀ w', Wd Γ (S.set i (Res.ms f b (aDel l a))) w' → KK (.tuple #[]) w') : Step P ⟨d, .call { callee := .builtin .delete, args := #[x, y], argTypes := #[T, U] }, ty, pos, es, g⟩ ρ w KK :=
  s_delete (P := P) (K := K) (α := ByteArray) hw hx hy hi hk
theorem lMakeMapS (f : β → Value) [hM : TMap P T K E] [hK : TStr P K] (h : ∀ b w', Wd Γ (Res.ms f b [] :: S) w' → L P n opa QQ rest (putO ρ d (.map (some b))) w') (hd : okDst n d = true := by exact rfl) (hw : Wd Γ S w := by exact hw) :
    L P n opa QQ (⟨d, .makeMap T none, ty, pos, es, none⟩ :: rest) ρ w := L_step rfl hd (s_makeMap (K := K) (α := ByteArray) (f := f) hw h)
theorem lMapUpdS {v : β} [hM : TMap P T K E] [hK : TStr P K] (h : ∀ w', Wd Γ (S.set i (Res.ms f b (aSet l a v))) w' → L P n opa QQ rest ρ w') (hw : Wd Γ S w := by exact hw) (hx : ev ρ x = .map (some b) := by exact rfl) (hy : ev ρ y = .string a := by exact rfl) (hi : S[i]? = some (Res.ms f b l) := by first | exact (rfl : (_ : List Res)[0]? = _) | exact (rfl : (_ : List Res)[1]? = _) | exact (rfl : (_ : List Res)[2]? = _) | exact (rfl : (_ : List Res)[3]? = _) | exact (rfl : (_ : List Res)[4]? = _) | exact (rfl : (_ : List Res)[5]? = _) | exact (rfl : (_ : List Res)[6]? = _) | exact (rfl : (_ : List Res)[7]? = _)) (hz : ev ρ z = f v := by exact rfl) :
    L P n opa QQ (⟨none, .mapUpdate T x y z, ty, pos, es, none⟩ :: rest) ρ w := L_step rfl rfl (s_mapUpdS hw hx hy hz hi h)
theorem lDelS [hM : TMap P T K E] [hK : TStr P K] (h : ∀ w', Wd Γ (S.set i (Res.ms f b (aDel l a))) w' → L P n opa QQ rest (putO ρ d (.tuple #[])) w') (hw : Wd Γ S w := by exact hw) (hx : ev ρ x = .map (some b) := by exact rfl) (hy : ev ρ y = .string a := by exact rfl) (hi : S[i]? = some (Res.ms f b l) := by first | exact (rfl : (_ : List Res)[0]? = _) | exact (rfl : (_ : List Res)[1]? = _) | exact (rfl : (_ : List Res)[2]? = _) | exact (rfl : (_ : List Res)[3]? = _) | exact (rfl : (_ : List Res)[4]? = _) | exact (rfl : (_ : List Res)[5]? = _) | exact (rfl : (_ : List Res)[6]? = _) | exact (rfl : (_ : List Res)[7]? = _)) (hd : okDst n d = true := by exact rfl) :
    L P n opa QQ (⟨d, .call { callee := .builtin .delete, args := #[x, y], argTypes := #[T, U] }, ty, pos, es, none⟩ :: rest) ρ w := L_step rfl hd (s_delS hw hx hy hi h)
end

/-! ### steps in regions that draw their order and change memory -/
def ML (l : List (Fr → List Res)) : Nat → Fr → List Res := fun x => l.getD x (fun _ => [])
def setC (M : Nat → Fr → List Res) (x : Nat) (m : Fr → List Res) : Nat → Fr → List Res := fun y => bif [x].contains y then m else M y
abbrev mV (P : Program) (n : Nat) (ops : List Oper) (Γ : Gho) (K : List Res) (wr tc stab : List (List Nat)) : MEnv := ⟨P, n, ops, Γ, K, wr, tc, stab, true⟩
/-- The cells that the i-th operation may use. -/
def cellsAt (tc stab : List (List Nat)) (i : Nat) (M : Nat → Fr → List Res) (g : Fr) : List Res := (tc.getD i []).flatMap fun x => M x (ovr (stab.getD x []) g noFr)
def outOf (tc stab : List (List Nat)) (i : Nat) (d : Option Tmp) : Bool := match d with | some d => (tc.getD i []).all fun x => !((stab.getD x []).contains d) | none => true
def freeD (stab : List (List Nat)) (d : Option Tmp) : Bool := match d with | some d => stab.flatten.contains d | none => true

section
variable {P : Program} {n : Nat} {ops : List Oper} {Γ : Gho} {K : List Res} {wr tc stab : List (List Nat)} {Q : Fr → World → Prop} {i : Nat} {rest : List Oper} {ρ : Fr} {M : Nat → Fr → List Res} {o : Oper} {v : Value}

theorem outOf_eq {g : Fr} {d : Option Tmp} {v : Value} (h : outOf tc stab i d = true) (M : Nat → Fr → List Res) : cellsAt tc stab i M (putO g d v) = cellsAt tc stab i M g := by
  refine flatMap_congr' fun x hx => ?_
  cases d with
  | none => rfl
  | some d =>
    congr 1
    refine ovr_congr fun t ht => upd_ne _ _ fun e => ?_
    subst e
    have := (List.all_eq_true.1 h) x hx
    simp at this
    exact this ht

/-- An operation that changes nothing. -/
theorem mC (hy : ∀ Y w g, Wd Γ (K ++ (cellsAt tc stab i M g ++ Y)) w → Step P o (ovr stab.flatten g ρ) w fun u w' => u = v ∧ Wd Γ (K ++ (cellsAt tc stab i M g ++ Y)) w') (hw0 : wr.getD i [] = []) (hg : o.guard = none) (ho : outOf tc stab i o.dst = true)
    (h : MSw (mV P n ops Γ K wr tc stab) Q (i + 1) rest ⟨putO ρ o.dst v, M⟩) : MSw (mV P n ops Γ K wr tc stab) Q i (o :: rest) ⟨ρ, M⟩ := by
  have hn : ∀ c, Mt.nxt (mV P n ops Γ K wr tc stab) i ⟨ρ, M⟩ c = M := fun c => by
    funext x; simp only [Mt.nxt, MEnv.w, hw0]; rfl
  refine ⟨⟨v, M⟩, ⟨fun Γ' Y w g hr hw => ?_⟩, ?_⟩
  · have hΓ : Γ' = Γ := hr
    subst hΓ
    rw [hn]
    refine ⟨fun _ => (hy Y w g hw).mono fun u w' ⟨h1, h2⟩ => ⟨Γ', rfl, ?_, fun _ => h1⟩, fun hf => ?_⟩
    · have := outOf_eq (g := g) (v := u) ho M
      show Wd Γ' (K ++ (cellsAt tc stab i M (putO g o.dst u) ++ Y)) w'
      rw [this]; exact h2
    · rw [wantF_none hg] at hf; cases hf
  · simp only [Mt.next, hn]; exact h
theorem mY (h : MSw (mV P n ops Γ K wr tc stab) Q (i + 1) rest ⟨putO ρ o.dst v, M⟩) (hw0 : wr.getD i [] = [] := by exact rfl) (hg : o.guard = none := by exact rfl) (ho : outOf tc stab i o.dst = true := by exact rfl)
    (hy : ∀ Y w g, Wd Γ (K ++ (cellsAt tc stab i M g ++ Y)) w → Yields P o (ovr stab.flatten g ρ) w v := by (intro Y w g hw; exact (by first | (apply m_move; exact y_move (by first | exact (rfl : _ = Value.int _ _) | exact (rfl : _ = Value.bool _) | exact (rfl : _ = Value.string _) | exact (rfl : _ = Value.slice _ _ _) | exact (rfl : _ = Value.pointer _) | exact (rfl : _ = Value.agg _) | exact (rfl : _ = Value.map _) | exact (rfl : _ = Value.tuple _) | exact (rfl : _ = Value.func _ _ _) | exact (rfl : _ = gv _ _) | exact rfl)) | (apply m_assign; exact y_assign (by first | exact (rfl : _ = Value.int _ _) | exact (rfl : _ = Value.bool _) | exact (rfl : _ = Value.string _) | exact (rfl : _ = Value.slice _ _ _) | exact (rfl : _ = Value.pointer _) | exact (rfl : _ = Value.agg _) | exact (rfl : _ = Value.map _) | exact (rfl : _ = Value.tuple _) | exact (rfl : _ = Value.func _ _ _) | exact (rfl : _ = gv _ _) | exact rfl)) | (apply g_bin; first | (apply m_op .eql; first | exact y_eql rfl rfl | exact y_eqls rfl rfl | exact y_eqT rfl rfl rfl | exact y_eqB rfl rfl | exact y_eqnS rfl rfl | exact y_eqnP rfl rfl | exact y_eqnM rfl rfl) | (apply m_op .lss; first | exact y_lss rfl rfl | exact y_lssS rfl rfl) | (apply m_op .neq; first | exact y_neq rfl rfl | exact y_neqs rfl rfl | exact y_neqT rfl rfl rfl | exact y_neqnS rfl rfl | exact y_neqnP rfl rfl) | (apply m_op .leq; first | exact y_leq rfl rfl | exact y_leqS rfl rfl) | (apply m_op .gtr; first | exact y_gtr rfl rfl | exact y_gtrS rfl rfl) | (apply m_op .geq; first | exact y_geq rfl rfl | exact y_geqS rfl rfl) | (apply m_op .add; first | exact y_add64 rfl rfl (by omega) (by omega) | exact y_add rfl rfl | exact y_addS rfl rfl (by omega)) | (apply m_op .sub; first | exact y_sub64 rfl rfl (by omega) (by omega) | exact y_sub rfl rfl) | (apply m_op .mul; first | exact y_mul64 rfl rfl (by omega) (by omega) | exact y_mul rfl rfl) | (apply m_op .rem; exact y_rem rfl rfl (by omega)) | (apply m_op .quo; exact y_quo rfl rfl (by omega)) | (apply m_op .shl; exact y_shl rfl rfl (by omega)) | (apply m_op .shr; exact y_shr rfl rfl (by omega)) | (apply m_op .and; exact y_and rfl rfl) | (apply m_op .or; exact y_or rfl rfl) | (apply m_op .xor; exact y_xor rfl rfl) | (apply m_op .andNot; exact y_andNot rfl rfl)) | (apply m_loadS; first | exact y_l1b (i := 0) hw rfl rfl rfl | exact y_l1b (i := 1) hw rfl rfl rfl | exact y_l1b (i := 2) hw rfl rfl rfl | exact y_l1b (i := 3) hw rfl rfl rfl | exact y_l1b (i := 4) hw rfl rfl rfl | exact y_l1b (i := 5) hw rfl rfl rfl | exact y_l1b (i := 6) hw rfl rfl rfl | exact y_loadEf rfl (RepS.rd (by assumption) hw) (rows_map (by assumption)) rfl | exact y_loadEf2 rfl (RepS.rd (by assumption) hw) (rows_map (by assumption)) rfl | exact y_loadE1 rfl (RepS.rd (by assumption) hw) (rows_map (by assumption)) | exact y_loadEf rfl (RdS.rd (by assumption) hw) (rows_map (by assumption)) rfl | exact y_loadEf2 rfl (RdS.rd (by assumption) hw) (rows_map (by assumption)) rfl | exact y_loadE1 rfl (RdS.rd (by assumption) hw) (rows_map (by assumption)) | exact y_loadEf rfl (RdS.rd (by assumption) hw.left) (rows_map (by assumption)) rfl | exact y_loadEf2 rfl (RdS.rd (by assumption) hw.left) (rows_map (by assumption)) rfl | exact y_loadE1 rfl (RdS.rd (by assumption) hw.left) (rows_map (by assumption)) | exact y_loadEf rfl (Wd.own_rd (i := 0) hw rfl) (rows_map (by assumption)) rfl | exact y_loadEf2 rfl (Wd.own_rd (i := 0) hw rfl) (rows_map (by assumption)) rfl | exact y_loadE1 rfl (Wd.own_rd (i := 0) hw rfl) (rows_map (by assumption)) | exact y_loadEf rfl (Wd.own_rd (i := 1) hw rfl) (rows_map (by assumption)) rfl | exact y_loadEf2 rfl (Wd.own_rd (i := 1) hw rfl) (rows_map (by assumption)) rfl | exact y_loadE1 rfl (Wd.own_rd (i := 1) hw rfl) (rows_map (by assumption)) | exact y_loadEf rfl (Wd.own_rd (i := 2) hw rfl) (rows_map (by assumption)) rfl | exact y_loadEf2 rfl (Wd.own_rd (i := 2) hw rfl) (rows_map (by assumption)) rfl | exact y_loadE1 rfl (Wd.own_rd (i := 2) hw rfl) (rows_map (by assumption)) | exact y_loadEf rfl (Wd.own_rd (i := 3) hw rfl) (rows_map (by assumption)) rfl | exact y_loadEf2 rfl (Wd.own_rd (i := 3) hw rfl) (rows_map (by assumption)) rfl | exact y_loadE1 rfl (Wd.own_rd (i := 3) hw rfl) (rows_map (by assumption))) | (apply m_loadA; first | exact y_lwb (i := 0) hw rfl rfl rfl | exact y_lwb (i := 1) hw rfl rfl rfl | exact y_lwb (i := 2) hw rfl rfl rfl | exact y_lwb (i := 3) hw rfl rfl rfl | exact y_lwb (i := 4) hw rfl rfl rfl | exact y_lwb (i := 5) hw rfl rfl rfl | exact y_lwb (i := 6) hw rfl rfl rfl | exact y_loadE rfl (RepS.rd (by assumption) hw) (rows_map (by assumption)) | exact y_loadEsub rfl (RepS.rd (by assumption) hw) (rows_map (by assumption)) rfl rfl | exact y_loadE rfl (RdS.rd (by assumption) hw) (rows_map (by assumption)) | exact y_loadEsub rfl (RdS.rd (by assumption) hw) (rows_map (by assumption)) rfl rfl | exact y_loadE rfl (RdS.rd (by assumption) hw.left) (rows_map (by assumption)) | exact y_loadEsub rfl (RdS.rd (by assumption) hw.left) (rows_map (by assumption)) rfl rfl | exact y_loadE rfl (Wd.own_rd (i := 0) hw rfl) (rows_map (by assumption)) | exact y_loadEsub rfl (Wd.own_rd (i := 0) hw rfl) (rows_map (by assumption)) rfl rfl | exact y_loadE rfl (Wd.own_rd (i := 1) hw rfl) (rows_map (by assumption)) | exact y_loadEsub rfl (Wd.own_rd (i := 1) hw rfl) (rows_map (by assumption)) rfl rfl | exact y_loadE rfl (Wd.own_rd (i := 2) hw rfl) (rows_map (by assumption)) | exact y_loadEsub rfl (Wd.own_rd (i := 2) hw rfl) (rows_map (by assumption)) rfl rfl | exact y_loadE rfl (Wd.own_rd (i := 3) hw rfl) (rows_map (by assumption)) | exact y_loadEsub rfl (Wd.own_rd (i := 3) hw rfl) (rows_map (by assumption)) rfl rfl | exact y_lpb (i := 0) hw rfl rfl rfl rfl | exact y_lpb (i := 1) hw rfl rfl rfl rfl | exact y_lpb (i := 2) hw rfl rfl rfl rfl | exact y_lpb (i := 3) hw rfl rfl rfl rfl | exact y_lpb (i := 4) hw rfl rfl rfl rfl | exact y_lpb (i := 5) hw rfl rfl rfl rfl | exact y_lpb (i := 6) hw rfl rfl rfl rfl) | (apply m_field; exact y_field rfl) | (apply g_idx; first | exact y_idxI hw (by assumption) rfl rfl (by omega) (by omega) | exact y_idxO (j := 0) hw rfl rfl rfl (by omega) (by omega) | exact y_idxO (j := 1) hw rfl rfl rfl (by omega) (by omega) | exact y_idxO (j := 2) hw rfl rfl rfl (by omega) (by omega) | exact y_idxO (j := 3) hw rfl rfl rfl (by omega) (by omega) | exact y_idxD (RdS.rd (by assumption) hw) rfl rfl (by omega) (by omega) | exact y_idxD (RdS.rd (by assumption) hw.left) rfl rfl (by omega) (by omega)) | (apply g_call; first | exact y_lenS rfl | exact y_lenL rfl | exact y_cap rfl | exact y_min2 rfl rfl | exact y_max2 rfl rfl | exact y_lenMs (i := 0) hw rfl rfl | exact y_lenMs (i := 1) hw rfl rfl | exact y_lenMs (i := 2) hw rfl rfl | exact y_lenMs (i := 3) hw rfl rfl | exact y_lenMs (i := 4) hw rfl rfl) | (apply m_pick; first | exact y_pick_and rfl rfl rfl | exact y_pick_or rfl rfl rfl | exact y_pickT rfl rfl | exact y_pickF rfl rfl) | (apply m_not; exact y_not rfl) | (apply m_extract; exact y_extract rfl rfl) | (apply m_nil; exact y_nil rfl) | (apply m_build; exact y_build rfl) | (apply m_index; exact y_idxS rfl rfl (by omega) (by omega)) | (apply m_lookup; first | exact y_lookupS2 (i := 0) hw rfl rfl rfl rfl | exact y_lookupS1 (i := 0) hw rfl rfl rfl rfl | exact y_lookupS2 (i := 1) hw rfl rfl rfl rfl | exact y_lookupS1 (i := 1) hw rfl rfl rfl rfl | exact y_lookupS2 (i := 2) hw rfl rfl rfl rfl | exact y_lookupS1 (i := 2) hw rfl rfl rfl rfl | exact y_lookupS2 (i := 3) hw rfl rfl rfl rfl | exact y_lookupS1 (i := 3) hw rfl rfl rfl rfl | exact y_lookupS2 (i := 4) hw rfl rfl rfl rfl | exact y_lookupS1 (i := 4) hw rfl rfl rfl rfl) | (apply m_slice; first | exact y_sliceL rfl rfl (by omega) (by omega) | exact y_sliceH rfl rfl (by omega) (by omega) | exact y_sliceLH rfl rfl rfl (by omega) (by omega) (by omega) | exact y_sliceLHM rfl rfl rfl rfl (by omega) (by omega) (by omega) (by omega) | exact y_sliceSLH rfl rfl rfl (by omega) (by omega) (by omega) | exact y_sliceSL rfl rfl (by omega) (by omega) | exact y_sliceSH rfl rfl (by omega) (by omega)) | (apply m_conv; exact y_convI rfl) | (apply m_neg; exact y_neg64 rfl (by omega) (by omega))))) : MSw (mV P n ops Γ K wr tc stab) Q i (o :: rest) ⟨ρ, M⟩ :=
  mC (fun Y w g hw => (hy Y w g hw).step ⟨rfl, hw⟩) hw0 hg ho h
/-- An operation that changes the cell x. -/
theorem mM {x : Nat} (m : Fr → List Res) (hs : ∀ Y w g, Wd Γ (K ++ (cellsAt tc stab i M g ++ Y)) w → Step P o (ovr stab.flatten g ρ) w fun u w' => Wd Γ (K ++ (cellsAt tc stab i (setC M x m) (putO g o.dst u) ++ Y)) w' ∧ (freeD stab o.dst = false → u = v))
    (h : MSw (mV P n ops Γ K wr tc stab) Q (i + 1) rest ⟨putO ρ o.dst v, setC M x m⟩) (hw0 : wr.getD i [] = [x] := by exact rfl) (hg : o.guard = none := by exact rfl) : MSw (mV P n ops Γ K wr tc stab) Q i (o :: rest) ⟨ρ, M⟩ := by
  have hn : Mt.nxt (mV P n ops Γ K wr tc stab) i ⟨ρ, M⟩ ⟨v, fun _ => m⟩ = setC M x m := by
    funext y; simp only [Mt.nxt, MEnv.w, hw0]; rfl
  refine ⟨⟨v, fun _ => m⟩, ⟨fun Γ' Y w g hr hw => ?_⟩, ?_⟩
  · have hΓ : Γ' = Γ := hr
    subst hΓ
    rw [hn]
    refine ⟨fun _ => (hs Y w g hw).mono fun u w' ⟨h1, h2⟩ => ⟨Γ', rfl, h1, h2⟩, fun hf => ?_⟩
    rw [wantF_none hg] at hf; cases hf
  · simp only [Mt.next, hn]; exact h
theorem mEnd (h : ∀ w g, Wd Γ (K ++ (List.range stab.length).flatMap fun x => M x (ovr (stab.getD x []) g noFr)) w → Q (ovr stab.flatten g ρ) w) : MSw (mV P n ops Γ K wr tc stab) Q i [] ⟨ρ, M⟩ := fun Γ' w g hr hw => by
  have hΓ : Γ' = Γ := hr
  subst hΓ
  exact h w g hw
theorem W_mixed {id : Nat} {l : List Oper} {QQ : Exit → Fr → World → Prop} {w : World} (K : List Res) (M : List (Fr → List Res)) (wr tc stab : List (List Nat)) (hw : Wd Γ (K ++ (List.range stab.length).flatMap fun x => (ML M) x (ovr (stab.getD x []) ρ noFr)) w)
    (h : MSw (mV P n l Γ K wr tc stab) (fun ρ w => QQ .normal ρ w) 0 l ⟨ρ, ML M⟩) (hm : P.follows .mixedOrders = true := by kernel_rfl) (hk : checkM n l wr tc stab = true := by kernel_rfl) : W P n (.region id l.toArray true) QQ ρ w :=
  W_mix K (ML M) wr tc stab true hm hk hw h
end
end Mk
