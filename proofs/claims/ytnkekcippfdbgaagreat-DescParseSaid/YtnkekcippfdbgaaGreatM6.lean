/- Texts of this proof, one behind another. -/
import Derived.Test.YtnkekcippfdbgaaGreatM5
/- The reference's parser: Parse answers as the program's (printed by a program). -/
section
open Go Mk
namespace Go.Proofs.YtnkekcippfdbgaaGreat
set_option maxHeartbeats 32000000
attribute [local irreducible] Calls posAt endP scanS attrP

def finX (toks : List Tok) (e : PosT) : PR HwT → PR HwT
  | .error q => .error q
  | .ok (H, k4) => if k4 + 1 < toks.length then .error (posOf toks (k4 + 1) e, 50) else .ok (H, k4 + 1)
def startX (toks : List Tok) (e : PosT) (σ : RS) (name : ByteArray) : PR HwT := if σ.er = 0 then itemsP toks e (toks.length + 1) σ.I ⟨name, [], [], [], [], []⟩ else .error (σ.p, σ.er)
theorem head3 {toks : List Tok} {e : PosT} {σ : RS} (hI : σ.I = 0) :
    (if σ.er = 0 then hardwareP toks e else .error (σ.p, σ.er)) = finX toks e (startX toks e (needS toks e (nameR toks e (needS toks e σ 1 machineB) 3).2 4 openB) (nameR toks e (needS toks e σ 1 machineB) 3).1) := by
  by_cases h : σ.er = 0
  · rw [if_pos h]
    unfold hardwareP
    have h1 := needS_st (toks := toks) (e := e) (kind := 1) (text := machineB) h
    rw [hI] at h1
    generalize needS toks e σ 1 machineB = τ1 at *
    cases hE : expectP toks e 1 machineB 0 with
    | error q =>
      obtain ⟨p, er⟩ := q
      rw [hE] at h1
      obtain ⟨h2, h3, h4⟩ := h1
      have h5 : τ1.er ≠ 0 := by rw [h3]; exact h4
      rw [nameR_er h5, needS_er h5]
      unfold startX
      rw [if_neg h5, h2, h3]; rfl
    | ok q =>
      obtain ⟨u, k1⟩ := q
      rw [hE] at h1
      obtain ⟨h2, h3⟩ := h1
      have h4 := nameR_st (toks := toks) (e := e) (kind := 3) h2
      rw [h3] at h4
      dsimp only
      cases hN : nameP toks e 3 k1 with
      | error q =>
        obtain ⟨p, er⟩ := q
        rw [hN] at h4
        obtain ⟨h5, h6, h7, -⟩ := h4
        have h8 : (nameR toks e τ1 3).2.er ≠ 0 := by rw [h6]; exact h7
        rw [needS_er h8]
        unfold startX
        rw [if_neg h8, h5, h6]; rfl
      | ok q =>
        obtain ⟨nm, k2⟩ := q
        rw [hN] at h4
        have h4 : nameR toks e τ1 3 = (nm, ⟨k2, τ1.p, 0⟩) := h4
        rw [h4]
        dsimp only
        have h5 := needS_st (toks := toks) (e := e) (τ := ⟨k2, τ1.p, 0⟩) (kind := 4) (text := openB) rfl
        generalize needS toks e ⟨k2, τ1.p, 0⟩ 4 openB = τ3 at *
        have h5 : StE (expectP toks e 4 openB k2) τ3 := h5
        cases hO : expectP toks e 4 openB k2 with
        | error q =>
          obtain ⟨p, er⟩ := q
          rw [hO] at h5
          obtain ⟨h6, h7, h8⟩ := h5
          unfold startX
          rw [if_neg (by rw [h7]; exact h8), h6, h7]; rfl
        | ok q =>
          obtain ⟨u, k3⟩ := q
          rw [hO] at h5
          obtain ⟨h6, h7⟩ := h5
          unfold startX
          rw [if_pos h6, h7]
          dsimp only
          cases itemsP toks e (toks.length + 1) k3 ⟨nm, [], [], [], [], []⟩ with
          | error q => rfl
          | ok q => rfl
  · rw [if_neg h, needS_er h, nameR_er h, needS_er h]
    unfold startX
    rw [if_neg h]; rfl
def outX : PR HwT → HwT × PosT × Int
  | .ok (H, _) => (H, ⟨0, 0⟩, 0)
  | .error (p, er) => (default, p, er)
theorem parse_out (s : ByteArray) : parseS s = outX (if (scanS s).2.2 = 0 then hardwareP (scanS s).1 (endP s) else .error ((scanS s).2.1, (scanS s).2.2)) := by
  unfold parseS
  by_cases h : (scanS s).2.2 = 0
  · rw [if_pos h, if_pos h]
    cases hardwareP (scanS s).1 (endP s) with
    | error q => rfl
    | ok q => rfl
  · rw [if_neg h, if_neg h]; rfl
def OutP (H : HwT) (τ : RS) : PR HwT → Prop
  | .ok (H', _) => τ.er = 0 ∧ H' = H
  | .error (p, er) => τ.p = p ∧ τ.er = er ∧ er ≠ 0
def MidH (toks : List Tok) (H : HwT) (τ : RS) : PR HwT → Prop
  | .ok (H', k4) => τ.er = 0 ∧ τ.I = k4 ∧ H = H' ∧ isS toks k4 4 closeB = true
  | .error (p, er) => τ.p = p ∧ τ.er = er ∧ er ≠ 0
theorem attr_some {Γ : Gho} {vo : Value} {ls : List (List Int)} {hs : List NumH} (hr : RepS Γ vo 1 (osR hs)) (hok : ∀ h ∈ hs, NOk Γ h) (hm : hs.map (·.L) = ls) : ∃ a n c, vo = .slice a n c ∧ n = ls.length := by
  obtain ⟨a, n, c, e, hn, -, -⟩ := hr.shape
  refine ⟨a, n, c, e, ?_⟩
  rw [hn, osR_len, ← hm]; simp
theorem nok_len {Γ : Gho} {h : NumH} (hk : NOk Γ h) : h.N = h.L.length := by
  obtain ⟨_, _, _, e, hn, -, -⟩ := RepS.shape hk
  cases e
  simpa [numRows] using hn
theorem set_H {H : HwT} {k k2 : Nat} {e : PosT} {toks : List Tok} {X : PR HwT} {f : Nat} (h : X = match itemP toks e k H with | .error q => .error q | .ok (H', k') => itemsP toks e f k' H') {H2 : HwT} (h2 : itemP toks e k H = .ok (H2, k2)) : X = itemsP toks e f k2 H2 := by rw [h, h2]
theorem set_E {H : HwT} {k : Nat} {e : PosT} {toks : List Tok} {X : PR HwT} {f : Nat} (h : X = match itemP toks e k H with | .error q => .error q | .ok (H', k') => itemsP toks e f k' H') {q : PosT × Int} (h2 : itemP toks e k H = .error q) : X = .error q := by rw [h, h2]
theorem attr_at {Γ : Gho} {toks : List Tok} {e : PosT} {names : List ByteArray} {k k2 : Nat} {got : Got} {hs : List NumH} (hA : attrP toks e names k = .ok (got, k2)) (hm : hs.map (·.L) = names.map fun s => (aGet got s).getD []) (hok : ∀ h ∈ hs, NOk Γ h) {i : Nat} {nm : ByteArray} (hi : names[i]? = some nm) :
    ∃ (A : Option Addr) (N C : Nat) (v : Int) (t : List Int), hs[i]? = some ⟨A, N, C, v :: t⟩ ∧ RepS Γ (.slice A N C) 1 (numRows (v :: t)) ∧ N = (v :: t).length ∧ numOf got nm = v ∧ aGet got nm = some (v :: t) := by
  obtain ⟨hall, -, -⟩ := attrP_ok hA
  obtain ⟨v, t, hg⟩ := hall nm (List.mem_of_getElem? hi)
  have hlen : hs.length = names.length := by have := congrArg List.length hm; simpa using this
  obtain ⟨h, hh⟩ := get_lt (l := hs) (k := i) (by have := (List.getElem?_eq_some_iff.1 hi).1; omega)
  have h1 : (hs.map (·.L))[i]? = some h.L := by rw [List.getElem?_map, hh]; rfl
  rw [hm, List.getElem?_map, hi] at h1
  have h1 : (aGet got nm).getD [] = h.L := by simpa using h1
  rw [hg] at h1
  have h1 : h.L = v :: t := h1.symm
  have hk := hok h (List.mem_of_getElem? hh)
  have hN := nok_len hk
  obtain ⟨A, N, C, L⟩ := h
  have h1 : L = v :: t := h1
  subst h1
  exact ⟨A, N, C, v, t, hh, hk, hN, by unfold numOf; rw [hg]; rfl, hg⟩
theorem mCallT {P : Program} {n : Nat} {ops : List Oper} {Γ : Gho} {K : List Res} {wr tc stab : List (List Nat)} {Q : Fr → World → Prop} {i : Nat} {rest : List Oper} {ρ : Fr} {M : Nat → Fr → List Res} {c dd f : Nat} {ty : TypeId} {pos : String} {es : Array Edge} {args : List Operand} {tys : Array TypeId} {vs : List Value} {X : List Res} [FnOk P f] (R' : Option Addr × Nat × Nat → List Res)
    (hcall : ∀ S w, Wd Γ (X ++ S) w → Calls P f vs.toArray w fun e w' => ∃ a n c, e = .returned (.slice a n c) ∧ Wd Γ (R' (a, n, c) ++ S) w')
    (h : MSw (mV P n ops Γ K wr tc stab) Q (i + 1) rest ⟨putO ρ (some dd) undef, setC M c (exC (fun t g => g dd = .slice t.1 t.2.1 t.2.2) R')⟩)
    (hw0 : wr.getD i [] = [c] := by exact rfl) (ht : tc.getD i [] = [c] := by exact rfl) (hM : M c = exC (fun (_ : Unit) _ => True) (fun _ => X) := by first | exact ml1 | exact setC_self) (hs : (stab.getD c []).contains dd = true := by exact rfl) (hfr : freeD stab (some dd) = true := by exact rfl) (ha : ∀ g, EvL (ovr stab.flatten g ρ) args vs := by intro g; exact byEV) :
    MSw (mV P n ops Γ K wr tc stab) Q i (⟨some dd, .call { callee := .value (.func f), args := args.toArray, argTypes := tys }, ty, pos, es, none⟩ :: rest) ⟨ρ, M⟩ :=
  mS (v := undef) (exC (fun (t : Option Addr × Nat × Nat) g => g dd = .slice t.1 t.2.1 t.2.2) R') (fun g w Y hw => by
    obtain ⟨_, -, hw⟩ := exC_open hw
    refine s_call (ha g).eqA ((hcall _ _ hw).mono ?_)
    rintro e w' ⟨a, n, c', rfl, hw'⟩
    refine ⟨_, rfl, fun hh => (by rw [hfr] at hh; cases hh), exC_mk (a, n, c') ?_ hw'⟩
    rw [ovr_in (by simpa using hs)]; exact upd_same _ _ _) h hM hw0 ht rfl
theorem RParse_any {Γ : Gho} {S : List Res} {w : World} (s : ByteArray) [hsz : SZ s] (hw : Wd Γ S w) :
    Calls Tryz.prog 7 #[.string s] w fun r w' => ∃ Γ' u, Γ.le Γ' ∧ r = .returned (.tuple #[u, .agg (enc (parseS s).2.1).toArray, .int .i64 (parseS s).2.2]) ∧ HwOut Γ' (parseS s).1 S u w' := by
  refine calls_of_WC Tryz.func7 rfl rfl ?_
  repeat (first | refine byW ?_ | (refine byV ?_; intro w hw))
  refine lAlloc ?_
  intro b2 w hw
  refine lAlloc ?_
  intro b3 w hw
  repeat (first | refine byW ?_ | (refine byV ?_; intro w hw))
  refine lCall ?_
  refine (Open_any s hsz.h hw).mono ?_
  clear hw
  rintro r w ⟨Γ1, bp, a, n, c, hle1, rfl, hRT, hw⟩
  refine ⟨_, rfl, ?_⟩
  rw [parse_out s]
  have h3 := head3 (toks := (scanS s).1) (e := endP s) (σ := ⟨0, (scanS s).2.1, (scanS s).2.2⟩) rfl
  dsimp only at h3
  rw [h3]
  clear h3
  generalize scanS s = q at *
  obtain ⟨toks, pp, ee⟩ := q
  dsimp only at hRT hw ⊢
  haveI := hRT
  obtain ⟨hn, hnc, hc⟩ := hRT.len
  have hbig := hRT.big
  repeat (first | refine byW ?_ | (refine byV ?_; intro w hw))
  refine lAlloc ?_
  intro b6 w hw
  have hw : Wd Γ1 (rpB bp s a n c ⟨0, pp, ee⟩ :: .blk b6 (.cells hwZ.toArray 29) :: .blk b3 (.cells (enc (⟨0, 0⟩ : PosT)).toArray 31) :: .blk b2 (.cells hwZ.toArray 29) :: S) w := hw.ps [1]
  repeat (first | refine byW ?_ | (refine byV ?_; intro w hw))
  refine lCall ?_
  refine (Need_any 1 machineB hw).mono ?_
  clear hw
  rintro r w ⟨rfl, hw⟩
  refine ⟨_, rfl, ?_⟩
  have hI1 := needS_I (toks := toks) (σ := ⟨0, pp, ee⟩) (e := endP s) (kind := 1) (text := machineB) (Nat.zero_le _)
  generalize needS toks (endP s) ⟨0, pp, ee⟩ 1 machineB = τ1 at *
  repeat (first | refine byW ?_ | (refine byV ?_; intro w hw))
  refine lCall ?_
  refine (Name_any 3 (by omega) hw).mono ?_
  clear hw
  rintro r w ⟨rfl, hw⟩
  refine ⟨_, rfl, ?_⟩
  have hI2 := nameR_I (toks := toks) (τ := τ1) (e := endP s) (kind := 3) hI1
  generalize nameR toks (endP s) τ1 3 = q2 at *
  obtain ⟨nm, τ2⟩ := q2
  dsimp only at hw hI2 ⊢
  repeat (first | refine byW ?_ | (refine byV ?_; intro w hw))
  refine lStore ?_
  intro w hw
  have hw : Wd Γ1 (rpB bp s a n c τ2 :: .blk b6 (.cells #[.string nm, .slice none 0 0, .slice none 0 0, .slice none 0 0, .slice none 0 0, .slice none 0 0] 29) :: .blk b3 (.cells (enc (⟨0, 0⟩ : PosT)).toArray 31) :: .blk b2 (.cells hwZ.toArray 29) :: S) w := hw
  repeat (first | refine byW ?_ | (refine byV ?_; intro w hw))
  refine lCall ?_
  refine (Need_any 4 openB hw).mono ?_
  clear hw
  rintro r w ⟨rfl, hw⟩
  refine ⟨_, rfl, ?_⟩
  have hI3 := needS_I (toks := toks) (σ := τ2) (e := endP s) (kind := 4) (text := openB) hI2
  generalize needS toks (endP s) τ2 4 openB = τ3 at *
  have hw : Wd Γ1 (rpB bp s a n c τ3 :: .blk b6 (.cells #[.string nm, .slice none 0 0, .slice none 0 0, .slice none 0 0, .slice none 0 0, .slice none 0 0] 29) :: (.own (.slice none 0 0) 72 4 (([] : List CoreT).map enc)) :: (.own (.slice none 0 0) 75 5 (([] : List CacheH).map cC)) :: (.own (.slice none 0 0) 77 3 (([] : List LinkT).map enc)) :: (.own (.slice none 0 0) 79 5 (([] : List MemT).map enc)) :: (.own (.slice none 0 0) 81 5 (([] : List DevT).map enc)) :: .blk b3 (.cells (enc (⟨0, 0⟩ : PosT)).toArray 31) :: .blk b2 (.cells hwZ.toArray 29) :: S) w := (Wd.addNil (Wd.addNil (Wd.addNil (Wd.addNil (Wd.addNil hw))))).ps [6, 6]
  obtain ⟨X1, hX1⟩ : ∃ X1, X1 = startX toks (endP s) τ3 nm := ⟨_, rfl⟩
  rw [← hX1]
  repeat (first | refine byW ?_ | (refine byV ?_; intro w hw))
  refine W_cutB (fun ρ w => ∃ (τ : RS) (H : HwT) (Γ' : Gho) (v1 v2 v3 v4 v5 : Value) (cs : List CacheH), Γ1.le Γ' ∧ τ.I ≤ n ∧ cs.map CacheH.T = H.Caches ∧ (∀ c ∈ cs, COk Γ' c) ∧ MidH toks H τ X1 ∧ Has ρ [(2, .pointer (some ⟨b2, 0, none⟩)), (3, .pointer (some ⟨b3, 0, none⟩)), (5, .pointer (some ⟨bp, 0, none⟩)), (6, .pointer (some ⟨b6, 0, none⟩))] ∧ Wd Γ' (rpB bp s a n c τ :: .blk b6 (.cells #[.string H.Name, v1, v2, v3, v4, v5] 29) :: (.own (v1) 72 4 (H.Cores.map enc)) :: (.own (v2) 75 5 (cs.map cC)) :: (.own (v3) 77 3 (H.Links.map enc)) :: (.own (v4) 79 5 (H.Mems.map enc)) :: (.own (v5) 81 5 (H.Devs.map enc)) :: .blk b3 (.cells (enc (⟨0, 0⟩ : PosT)).toArray 31) :: .blk b2 (.cells hwZ.toArray 29) :: S) w) ?_ ?_
  · refine W_loop (fun μ ρ w => ∃ (τ : RS) (H : HwT) (Γ' : Gho) (v1 v2 v3 v4 v5 : Value) (cs : List CacheH), Γ1.le Γ' ∧ τ.I ≤ n ∧ cs.map CacheH.T = H.Caches ∧ (∀ c ∈ cs, COk Γ' c) ∧ (if τ.er = 0 then n < μ + τ.I ∧ X1 = itemsP toks (endP s) μ τ.I H ∧ Small H τ.I else X1 = .error (τ.p, τ.er)) ∧ Has ρ [(2, .pointer (some ⟨b2, 0, none⟩)), (3, .pointer (some ⟨b3, 0, none⟩)), (5, .pointer (some ⟨bp, 0, none⟩)), (6, .pointer (some ⟨b6, 0, none⟩))] ∧ Wd Γ' (rpB bp s a n c τ :: .blk b6 (.cells #[.string H.Name, v1, v2, v3, v4, v5] 29) :: (.own (v1) 72 4 (H.Cores.map enc)) :: (.own (v2) 75 5 (cs.map cC)) :: (.own (v3) 77 3 (H.Links.map enc)) :: (.own (v4) 79 5 (H.Mems.map enc)) :: (.own (v5) 81 5 (H.Devs.map enc)) :: .blk b3 (.cells (enc (⟨0, 0⟩ : PosT)).toArray 31) :: .blk b2 (.cells hwZ.toArray 29) :: S) w) (toks.length + 1) ?_ ?_
    · refine ⟨τ3, ⟨nm, [], [], [], [], []⟩, Γ1, _, _, _, _, _, [], Gho.le.refl _, by omega, rfl, by simp, ?_, ⟨rfl, rfl, rfl, rfl, trivial⟩, hw⟩
      unfold startX at hX1
      by_cases h0 : τ3.er = 0
      · rw [if_pos h0] at hX1 ⊢
        exact ⟨by omega, hX1, ⟨Nat.zero_le _, Nat.zero_le _, Nat.zero_le _, Nat.zero_le _, Nat.zero_le _⟩⟩
      · rw [if_neg h0] at hX1 ⊢; exact hX1
    clear hw hX1 hI3 hI2 hI1
    rintro μ ρ w ⟨τ, H, Γ', v1, v2, v3, v4, v5, cs, hle, hτI, hcs, hok, hm, hρ, hw⟩
    rw [hρ.eq]
    clear hρ
    haveI := hRT.mono hle
    repeat (first | refine byW ?_ | (refine byV ?_; intro w hw) | (apply L_plain; apply L_go; refine lPs ?_; intro w hw) | (apply L_guarded; apply L_go; refine lPsG ?_; intro w hw))
    refine W_cond rfl (fun h => ?_) (fun h => ?_)
    rotate_left
    · repeat (first | refine byW ?_ | (refine byV ?_; intro w hw))
      refine ⟨τ, H, Γ', _, _, _, _, _, cs, hle, hτI, hcs, hok, ?_, ⟨rfl, rfl, rfl, rfl, trivial⟩, hw⟩
      by_cases h0 : τ.er = 0
      · rw [if_pos h0] at hm
        obtain ⟨hμ, hX, -⟩ := hm
        have hcl : isS toks τ.I 4 closeB = true := by
          cases hi : isS toks τ.I 4 closeB with
          | true => rfl
          | false =>
            have q : (decide (τ.er = 0) && !(decide (τ.er = 0) && isS toks τ.I 4 closeB)) = true := by rw [hi, decide_eq_true h0]; rfl
            exact absurd (q.symm.trans h) (by decide)
        obtain ⟨f, rfl⟩ : ∃ f, μ = f + 1 := ⟨μ - 1, by omega⟩
        have : X1 = .ok (H, τ.I) := by
          rw [hX]
          show (if isS toks τ.I 4 closeB = true then _ else _) = _
          rw [if_pos hcl]
        rw [this]
        exact ⟨h0, rfl, rfl, hcl⟩
      · rw [if_neg h0] at hm
        rw [hm]
        exact ⟨rfl, rfl, h0⟩
    have h0 : τ.er = 0 ∧ isS toks τ.I 4 closeB = false := by
      have q : (decide (τ.er = 0) && !(decide (τ.er = 0) && isS toks τ.I 4 closeB)) = true := h
      by_cases h0 : τ.er = 0
      · rw [decide_eq_true h0] at q
        simpa [h0] using q
      · rw [decide_eq_false h0] at q; cases q
    obtain ⟨h0, hcl⟩ := h0
    rw [if_pos h0] at hm
    obtain ⟨hμ, hX, hsm⟩ := hm
    obtain ⟨f, rfl⟩ : ∃ f, μ = f + 1 := ⟨μ - 1, by omega⟩
    have hX : X1 = match itemP toks (endP s) τ.I H with | .error q => .error q | .ok (H', k') => itemsP toks (endP s) f k' H' := by
      rw [hX]
      show (if isS toks τ.I 4 closeB = true then _ else _) = _
      rw [if_neg (by rw [hcl]; decide)]
      cases itemP toks (endP s) τ.I H <;> rfl
    obtain ⟨k0, p0, e0⟩ := τ
    have h0 : e0 = 0 := h0
    subst h0
    have hτI : k0 ≤ n := hτI
    have hμ : n < f + 1 + k0 := hμ
    have hsm : Small H k0 := hsm
    have hX : X1 = match itemP toks (endP s) k0 H with | .error q => .error q | .ok (H', k') => itemsP toks (endP s) f k' H' := hX
    clear h hcl
    repeat (first | refine byW ?_ | (refine byV ?_; intro w hw))
    refine lCall ?_
    refine (Any_any 1 hτI hw).mono ?_
    clear hw
    rintro r w ⟨rfl, hw⟩
    refine ⟨_, rfl, ?_⟩
    refine lY (v := .string (anyS toks (endP s) ⟨k0, p0, 0⟩ 1).1.Text) ?_ (hy := y_fldS Tryz.underlying63 rfl rfl (TS.h (P := Tryz.prog) (T := 9)) rfl)
    rcases anyS_ok (toks := toks) (e := endP s) (τ := ⟨k0, p0, 0⟩) (kind := 1) rfl with ⟨t, hN1, htk, hA⟩ | ⟨hN1, hA⟩
    rotate_left
    · have hN1 : nextP toks (endP s) 1 k0 = .error (posOf toks k0 (endP s), 50) := hN1
      rw [hA] at hw ⊢
      have hX := set_E hX (q := (posOf toks k0 (endP s), 50)) (by unfold itemP; rw [hN1])
      rw [hX]
      repeat (first | refine byW ?_ | (refine byV ?_; intro w hw) | (apply L_plain; apply L_go; refine lPs ?_; intro w hw) | (apply L_guarded; apply L_go; refine lPsG ?_; intro w hw))
      refine W_cond_true rfl ?_
      repeat (first | refine byW ?_ | (refine byV ?_; intro w hw))
      exact ⟨_, H, Γ', _, _, _, _, _, cs, hle, hτI, hcs, hok, ⟨rfl, rfl, by decide⟩, ⟨rfl, rfl, rfl, rfl, trivial⟩, hw⟩
    have hN1 : nextP toks (endP s) 1 k0 = .ok (t, k0) := hN1
    have htk : toks[k0]? = some t := htk
    have hlt := (List.getElem?_eq_some_iff.1 htk).1
    rw [hA] at hw ⊢
    have hA2 : (⟨k0 + 1, p0, 0⟩ : RS) = ⟨k0 + 1, p0, 0⟩ := rfl
    clear hA
    have hI1 : k0 + 1 ≤ n := by omega
    have hw : Wd Γ' (rpB bp s a n c ⟨k0 + 1, p0, 0⟩ :: .blk b6 (.cells #[.string H.Name, v1, v2, v3, v4, v5] 29) :: (.own (v1) 72 4 (H.Cores.map enc)) :: (.own (v2) 75 5 (cs.map cC)) :: (.own (v3) 77 3 (H.Links.map enc)) :: (.own (v4) 79 5 (H.Mems.map enc)) :: (.own (v5) 81 5 (H.Devs.map enc)) :: .blk b3 (.cells (enc (⟨0, 0⟩ : PosT)).toArray 31) :: .blk b2 (.cells hwZ.toArray 29) :: S) w := hw
    repeat (first | refine byW ?_ | (refine byV ?_; intro w hw) | (apply L_plain; apply L_go; refine lPs ?_; intro w hw) | (apply L_guarded; apply L_go; refine lPsG ?_; intro w hw))
    refine W_cond_false rfl ?_
    repeat (first | refine byW ?_ | (refine byV ?_; intro w hw))
    refine W_cond rfl (fun h => ?_) (fun h => ?_)
    · have hT : t.Text = coreB := of_decide_eq_true h
      have hIt : itemP toks (endP s) k0 H = PR.map (fun c => { H with Cores := H.Cores ++ [c] }) (coreP toks (endP s) (k0 + 1)) := by unfold itemP; rw [hN1]; dsimp only; rw [hT]; rfl
      have hAt : attrL t.Text = [widthB, nodeB, speedB] := by rw [hT]; rfl
      repeat (first | refine byW ?_ | (refine byV ?_; intro w hw))
      refine lCall ?_
      refine (Int_any hI1 hw).mono ?_
      clear hw
      rintro r w ⟨rfl, hw⟩
      refine ⟨_, rfl, ?_⟩
      obtain ⟨q0, hq0⟩ : ∃ q, q = intR toks (endP s) ⟨k0 + 1, p0, 0⟩ := ⟨_, rfl⟩
      have hqI0 := intR_I (toks := toks) (τ := ⟨k0 + 1, p0, 0⟩) (e := endP s) (by show k0 + 1 ≤ toks.length; omega)
      rw [← hq0] at hw hqI0 ⊢
      obtain ⟨y0, σ0⟩ := q0
      dsimp only at hw hqI0 ⊢
      repeat (first | refine byW ?_ | (refine byV ?_; intro w hw))
      refine lCall ?_
      refine (Attributes_any t.Text hw).mono ?_
      clear hw
      rintro r w ⟨vn, rfl, hw⟩
      refine ⟨_, rfl, ?_⟩
      rw [hAt] at hw
      have hw := hw.ps [1]
      refine lCall ?_
      refine (item_ref [widthB, nodeB, speedB] vn (by omega) (by decide) (by decide) hw).mono ?_
      clear hw
      rintro r w ⟨Γ2, vo, τ', hle2, rfl, hτ'I, hpost, hw⟩
      refine ⟨_, rfl, ?_⟩
      have hok2 : ∀ c ∈ cs, COk Γ2 c := fun c hc => (hok c hc).mono hle2
      have hw : Wd Γ2 (rpB bp s a n c τ' :: .blk b6 (.cells #[.string H.Name, v1, v2, v3, v4, v5] 29) :: (.own (v1) 72 4 (H.Cores.map enc)) :: (.own (v2) 75 5 (cs.map cC)) :: (.own (v3) 77 3 (H.Links.map enc)) :: (.own (v4) 79 5 (H.Mems.map enc)) :: (.own (v5) 81 5 (H.Devs.map enc)) :: .blk b3 (.cells (enc (⟨0, 0⟩ : PosT)).toArray 31) :: .blk b2 (.cells hwZ.toArray 29) :: S) w := hw
      repeat (first | refine byW ?_ | (refine byV ?_; intro w hw) | (apply L_plain; apply L_go; refine lPs ?_; intro w hw) | (apply L_guarded; apply L_go; refine lPsG ?_; intro w hw))
      have hD : (τ'.er ≠ 0 ∧ itemP toks (endP s) k0 H = .error (τ'.p, τ'.er)) ∨ (∃ (got : Got) (k1 : Nat) (hs : List NumH), τ'.er = 0 ∧ attrP toks (endP s) [widthB, nodeB, speedB] k1 = .ok (got, τ'.I) ∧ RepS Γ2 vo 1 (osR hs) ∧ (∀ h ∈ hs, NOk Γ2 h) ∧ hs.map (·.L) = [widthB, nodeB, speedB].map (fun s => (aGet got s).getD []) ∧ itemP toks (endP s) k0 H = .ok ({ H with Cores := H.Cores ++ [(⟨y0, intOf got widthB, intOf got nodeB, intOf got speedB⟩ : CoreT)] }, τ'.I)) := by
        have hs0 := intR_st (toks := toks) (e := endP s) (τ := ⟨k0 + 1, p0, 0⟩) rfl
        rw [← hq0] at hs0
        dsimp only at hs0
        cases hQ0 : numberP toks (endP s) true (k0 + 1) with
        | error q =>
          obtain ⟨p, er⟩ := q
          rw [hQ0] at hs0
          obtain ⟨g1, g2, g3, -⟩ := hs0
          have g4 : σ0.er ≠ 0 := by rw [g2]; exact g3
          rw [if_neg g4] at hpost
          obtain ⟨g5, g6, g7⟩ := hpost
          refine .inl ⟨by rw [g6]; exact g7, ?_⟩
          rw [hIt]
          unfold coreP
          rw [hQ0, g5, g6, g1, g2]; rfl
        | ok q =>
          obtain ⟨z0, k1⟩ := q
          rw [hQ0] at hs0
          cases hs0
          rw [if_pos rfl] at hpost
          cases hA : attrP toks (endP s) [widthB, nodeB, speedB] k1 with
          | error q =>
            obtain ⟨p, er⟩ := q
            rw [hA] at hpost
            obtain ⟨g5, g6, g7⟩ := hpost
            refine .inl ⟨by rw [g6]; exact g7, ?_⟩
            rw [hIt]
            unfold coreP
            rw [hQ0]
            dsimp only
            rw [hA, g5, g6]; rfl
          | ok q =>
            obtain ⟨got, k9⟩ := q
            rw [hA] at hpost
            obtain ⟨g5, g6, hs, g7, g8, g9⟩ := hpost
            refine .inr ⟨got, k1, hs, g5, by rw [g6]; exact hA, g7, g8, g9, ?_⟩
            rw [hIt]
            unfold coreP
            rw [hQ0]
            dsimp only
            rw [hA, g6]; rfl
      rcases hD with ⟨he, hi⟩ | ⟨got, k1, hs, he, hA, hrv, hokh, hms, hi⟩
      · refine W_cond_false (by show Value.bool (decide (τ'.er = 0)) = _; rw [decide_eq_false he]) ?_
        repeat (first | refine byW ?_ | (refine byV ?_; intro w hw))
        exact ⟨f, by omega, τ', H, Γ2, _, _, _, _, _, cs, hle.trans hle2, hτ'I, hcs, hok2, by rw [if_neg he]; exact set_E hX hi, ⟨rfl, rfl, rfl, rfl, trivial⟩, hw⟩
      refine W_cond_true (by show Value.bool (decide (τ'.er = 0)) = _; rw [decide_eq_true he]) ?_
      obtain ⟨va, vm, vc, rfl, hvm⟩ := attr_some hrv hokh hms
      simp only [List.length_map, List.length_cons, List.length_nil] at hvm
      obtain ⟨A0, N0, C0, x0, t0, hh0, r0, hN0, hx0, hg0⟩ := attr_at hA hms hokh (i := 0) (nm := widthB) rfl
      have hP0 : 0 < N0 := by rw [hN0]; exact Nat.succ_pos _
      obtain ⟨A1, N1, C1, x1, t1, hh1, r1, hN1, hx1, hg1⟩ := attr_at hA hms hokh (i := 1) (nm := nodeB) rfl
      have hP1 : 0 < N1 := by rw [hN1]; exact Nat.succ_pos _
      obtain ⟨A2, N2, C2, x2, t2, hh2, r2, hN2, hx2, hg2⟩ := attr_at hA hms hokh (i := 2) (nm := speedB) rfl
      have hP2 : 0 < N2 := by rw [hN2]; exact Nat.succ_pos _
      obtain ⟨qa, qm, qc, rfl, hqm, -, -⟩ := hw.own_shape (i := 2) rfl
      simp only [List.length_map] at hqm
      have gsm' := hsm
      obtain ⟨s1, s2, s3, s4, s5⟩ := gsm'
      repeat (first | refine byW ?_ | (refine byV ?_; intro w hw))
      refine W_mix2 ([rpB bp s a n c τ', (.own (v2) 75 5 (cs.map cC)), (.own (v3) 77 3 (H.Links.map enc)), (.own (v4) 79 5 (H.Mems.map enc)), (.own (v5) 81 5 (H.Devs.map enc))]) (.blk b6 (.cells #[.string H.Name, .slice qa qm qc, v2, v3, v4, v5] 29) :: (.own (.slice qa qm qc) 72 4 (H.Cores.map enc)) :: .blk b3 (.cells (enc (⟨0, 0⟩ : PosT)).toArray 31) :: .blk b2 (.cells hwZ.toArray 29) :: S) [[],[],[],[],[],[],[],[],[],[],[],[],[],[],[],[],[],[],[],[],[],[],[1],[0],[],[0]] [[],[0],[],[],[],[],[],[],[],[],[],[],[],[],[],[],[],[],[],[],[],[],[1],[0,1],[],[0]] [[83], [82]] (hw.ps [2, 2, 6, 6, 6, 6, 6]) ?_
      repeat (first | refine mY ?_ | refine mP ?_ | refine mPg ?_)
      refine mY ?_ (hy := fun Y w g hw => y_idxI (i := 0) hw r0 rfl rfl (by omega) (by omega))
      refine mY (v := .int .u64 x0) ?_ (hy := fun Y w g hw => y_loadE1 (k := 0) rfl (r0.rd hw) rfl)
      refine mY ?_
      repeat (first | refine mY ?_ | refine mP ?_ | refine mPg ?_)
      refine mY ?_ (hy := fun Y w g hw => y_idxI (i := 0) hw r1 rfl rfl (by omega) (by omega))
      refine mY (v := .int .u64 x1) ?_ (hy := fun Y w g hw => y_loadE1 (k := 0) rfl (r1.rd hw) rfl)
      refine mY ?_
      repeat (first | refine mY ?_ | refine mP ?_ | refine mPg ?_)
      refine mY ?_ (hy := fun Y w g hw => y_idxI (i := 0) hw r2 rfl rfl (by omega) (by omega))
      refine mY (v := .int .u64 x2) ?_ (hy := fun Y w g hw => y_loadE1 (k := 0) rfl (r2.rd hw) rfl)
      refine mY ?_
      refine mY (v := .agg (enc (⟨y0, IntKind.i64.wrap x0, IntKind.i64.wrap x1, IntKind.i64.wrap x2⟩ : CoreT)).toArray) ?_ (hy := fun Y w g hw => y_build rfl)
      refine mBuild [enc (⟨y0, IntKind.i64.wrap x0, IntKind.i64.wrap x1, IntKind.i64.wrap x2⟩ : CoreT)] ?_
      refine mApp ?_
      repeat (first | refine mY ?_ | refine mP ?_ | refine mEndAt ?_ | refine mEnd0 ?_ | refine mEnd ?_)
      refine mStoreV ?_
      refine mEnd fun w g hw => ?_
      have hw := Wd.dropEnd hw
      have hw : Wd Γ2 (rpB bp s a n c τ' :: .blk b6 (.cells #[.string H.Name, g 83, v2, v3, v4, v5] 29) :: (.own (g 83) 72 4 ((H.Cores.map enc) ++ [enc (⟨y0, IntKind.i64.wrap x0, IntKind.i64.wrap x1, IntKind.i64.wrap x2⟩ : CoreT)])) :: (.own (v2) 75 5 (cs.map cC)) :: (.own (v3) 77 3 (H.Links.map enc)) :: (.own (v4) 79 5 (H.Mems.map enc)) :: (.own (v5) 81 5 (H.Devs.map enc)) :: .blk b3 (.cells (enc (⟨0, 0⟩ : PosT)).toArray 31) :: .blk b2 (.cells hwZ.toArray 29) :: S) w := hw.ps [4, 4, 4, 4, 6, 6, 6]
      generalize g 83 = vv at hw
      have hi : itemP toks (endP s) k0 H = .ok ({ H with Cores := H.Cores ++ [(⟨y0, IntKind.i64.wrap x0, IntKind.i64.wrap x1, IntKind.i64.wrap x2⟩ : CoreT)] }, τ'.I) := by rw [hi]; unfold intOf; rw [hx0, hx1, hx2]
      have hw : Wd Γ2 (rpB bp s a n c τ' :: .blk b6 (.cells #[.string H.Name, vv, v2, v3, v4, v5] 29) :: (.own (vv) 72 4 ((H.Cores ++ [(⟨y0, IntKind.i64.wrap x0, IntKind.i64.wrap x1, IntKind.i64.wrap x2⟩ : CoreT)]).map enc)) :: (.own (v2) 75 5 (cs.map cC)) :: (.own (v3) 77 3 (H.Links.map enc)) :: (.own (v4) 79 5 (H.Mems.map enc)) :: (.own (v5) 81 5 (H.Devs.map enc)) :: .blk b3 (.cells (enc (⟨0, 0⟩ : PosT)).toArray 31) :: .blk b2 (.cells hwZ.toArray 29) :: S) w := by rw [List.map_append]; exact hw
      repeat (first | refine byW ?_ | (refine byV ?_; intro w hw))
      obtain ⟨gk1, gk2, gsm, -⟩ := itemP_ok hi
      exact ⟨f, by omega, τ', { H with Cores := H.Cores ++ [(⟨y0, IntKind.i64.wrap x0, IntKind.i64.wrap x1, IntKind.i64.wrap x2⟩ : CoreT)] }, Γ2, _, _, _, _, _, cs, hle.trans hle2, hτ'I, hcs, hok2, by rw [if_pos he]; exact ⟨by omega, set_H hX hi, gsm hsm⟩, ⟨rfl, rfl, rfl, rfl, trivial⟩, hw⟩
    have hn1 : ¬ t.Text = coreB := of_decide_eq_false h
    clear h
    repeat (first | refine byW ?_ | (refine byV ?_; intro w hw))
    refine W_cond rfl (fun h => ?_) (fun h => ?_)
    · have hT : t.Text = cacheB := of_decide_eq_true h
      have hIt : itemP toks (endP s) k0 H = PR.map (fun c => { H with Caches := H.Caches ++ [c] }) (cacheP toks (endP s) (k0 + 1)) := by unfold itemP; rw [hN1]; dsimp only; rw [hT]; rfl
      have hAt : attrL t.Text = [levelB, lineB, sizeB, coresB] := by rw [hT]; rfl
      repeat (first | refine byW ?_ | (refine byV ?_; intro w hw))
      refine lCall ?_
      refine (Name_any 1 hI1 hw).mono ?_
      clear hw
      rintro r w ⟨rfl, hw⟩
      refine ⟨_, rfl, ?_⟩
      obtain ⟨q0, hq0⟩ : ∃ q, q = nameR toks (endP s) ⟨k0 + 1, p0, 0⟩ 1 := ⟨_, rfl⟩
      have hqI0 := nameR_I (toks := toks) (τ := ⟨k0 + 1, p0, 0⟩) (e := endP s) (kind := 1) (by show k0 + 1 ≤ toks.length; omega)
      rw [← hq0] at hw hqI0 ⊢
      obtain ⟨y0, σ0⟩ := q0
      dsimp only at hw hqI0 ⊢
      repeat (first | refine byW ?_ | (refine byV ?_; intro w hw))
      refine lCall ?_
      refine (Attributes_any t.Text hw).mono ?_
      clear hw
      rintro r w ⟨vn, rfl, hw⟩
      refine ⟨_, rfl, ?_⟩
      rw [hAt] at hw
      have hw := hw.ps [1]
      refine lCall ?_
      refine (item_ref [levelB, lineB, sizeB, coresB] vn (by omega) (by decide) (by decide) hw).mono ?_
      clear hw
      rintro r w ⟨Γ2, vo, τ', hle2, rfl, hτ'I, hpost, hw⟩
      refine ⟨_, rfl, ?_⟩
      have hok2 : ∀ c ∈ cs, COk Γ2 c := fun c hc => (hok c hc).mono hle2
      have hw : Wd Γ2 (rpB bp s a n c τ' :: .blk b6 (.cells #[.string H.Name, v1, v2, v3, v4, v5] 29) :: (.own (v1) 72 4 (H.Cores.map enc)) :: (.own (v2) 75 5 (cs.map cC)) :: (.own (v3) 77 3 (H.Links.map enc)) :: (.own (v4) 79 5 (H.Mems.map enc)) :: (.own (v5) 81 5 (H.Devs.map enc)) :: .blk b3 (.cells (enc (⟨0, 0⟩ : PosT)).toArray 31) :: .blk b2 (.cells hwZ.toArray 29) :: S) w := hw
      repeat (first | refine byW ?_ | (refine byV ?_; intro w hw) | (apply L_plain; apply L_go; refine lPs ?_; intro w hw) | (apply L_guarded; apply L_go; refine lPsG ?_; intro w hw))
      have hD : (τ'.er ≠ 0 ∧ itemP toks (endP s) k0 H = .error (τ'.p, τ'.er)) ∨ (∃ (got : Got) (k1 : Nat) (hs : List NumH), τ'.er = 0 ∧ attrP toks (endP s) [levelB, lineB, sizeB, coresB] k1 = .ok (got, τ'.I) ∧ RepS Γ2 vo 1 (osR hs) ∧ (∀ h ∈ hs, NOk Γ2 h) ∧ hs.map (·.L) = [levelB, lineB, sizeB, coresB].map (fun s => (aGet got s).getD []) ∧ itemP toks (endP s) k0 H = .ok ({ H with Caches := H.Caches ++ [(⟨y0, intOf got levelB, intOf got lineB, numOf got sizeB, ((aGet got coresB).getD []).map fun v => IntKind.i64.wrap v⟩ : CacheT)] }, τ'.I)) := by
        have hs0 := nameR_st (toks := toks) (e := endP s) (τ := ⟨k0 + 1, p0, 0⟩) (kind := 1) rfl
        rw [← hq0] at hs0
        dsimp only at hs0
        cases hQ0 : nameP toks (endP s) 1 (k0 + 1) with
        | error q =>
          obtain ⟨p, er⟩ := q
          rw [hQ0] at hs0
          obtain ⟨g1, g2, g3, -⟩ := hs0
          have g4 : σ0.er ≠ 0 := by rw [g2]; exact g3
          rw [if_neg g4] at hpost
          obtain ⟨g5, g6, g7⟩ := hpost
          refine .inl ⟨by rw [g6]; exact g7, ?_⟩
          rw [hIt]
          unfold cacheP
          rw [hQ0, g5, g6, g1, g2]; rfl
        | ok q =>
          obtain ⟨z0, k1⟩ := q
          rw [hQ0] at hs0
          cases hs0
          rw [if_pos rfl] at hpost
          cases hA : attrP toks (endP s) [levelB, lineB, sizeB, coresB] k1 with
          | error q =>
            obtain ⟨p, er⟩ := q
            rw [hA] at hpost
            obtain ⟨g5, g6, g7⟩ := hpost
            refine .inl ⟨by rw [g6]; exact g7, ?_⟩
            rw [hIt]
            unfold cacheP
            rw [hQ0]
            dsimp only
            rw [hA, g5, g6]; rfl
          | ok q =>
            obtain ⟨got, k9⟩ := q
            rw [hA] at hpost
            obtain ⟨g5, g6, hs, g7, g8, g9⟩ := hpost
            refine .inr ⟨got, k1, hs, g5, by rw [g6]; exact hA, g7, g8, g9, ?_⟩
            rw [hIt]
            unfold cacheP
            rw [hQ0]
            dsimp only
            rw [hA, g6]; rfl
      rcases hD with ⟨he, hi⟩ | ⟨got, k1, hs, he, hA, hrv, hokh, hms, hi⟩
      · refine W_cond_false (by show Value.bool (decide (τ'.er = 0)) = _; rw [decide_eq_false he]) ?_
        repeat (first | refine byW ?_ | (refine byV ?_; intro w hw))
        exact ⟨f, by omega, τ', H, Γ2, _, _, _, _, _, cs, hle.trans hle2, hτ'I, hcs, hok2, by rw [if_neg he]; exact set_E hX hi, ⟨rfl, rfl, rfl, rfl, trivial⟩, hw⟩
      refine W_cond_true (by show Value.bool (decide (τ'.er = 0)) = _; rw [decide_eq_true he]) ?_
      obtain ⟨va, vm, vc, rfl, hvm⟩ := attr_some hrv hokh hms
      simp only [List.length_map, List.length_cons, List.length_nil] at hvm
      obtain ⟨A0, N0, C0, x0, t0, hh0, r0, hN0, hx0, hg0⟩ := attr_at hA hms hokh (i := 0) (nm := levelB) rfl
      have hP0 : 0 < N0 := by rw [hN0]; exact Nat.succ_pos _
      obtain ⟨A1, N1, C1, x1, t1, hh1, r1, hN1, hx1, hg1⟩ := attr_at hA hms hokh (i := 1) (nm := lineB) rfl
      have hP1 : 0 < N1 := by rw [hN1]; exact Nat.succ_pos _
      obtain ⟨A2, N2, C2, x2, t2, hh2, r2, hN2, hx2, hg2⟩ := attr_at hA hms hokh (i := 2) (nm := sizeB) rfl
      have hP2 : 0 < N2 := by rw [hN2]; exact Nat.succ_pos _
      obtain ⟨A3, N3, C3, x3, t3, hh3, r3, hN3, hx3, hg3⟩ := attr_at hA hms hokh (i := 3) (nm := coresB) rfl
      have hP3 : 0 < N3 := by rw [hN3]; exact Nat.succ_pos _
      obtain ⟨qa, qm, qc, rfl, hqm, -, -⟩ := hw.own_shape (i := 3) rfl
      simp only [List.length_map] at hqm
      have hcl : cs.length = H.Caches.length := by rw [← hcs]; simp
      have gsm' := hsm
      obtain ⟨s1, s2, s3, s4, s5⟩ := gsm'
      repeat (first | refine byW ?_ | (refine byV ?_; intro w hw))
      refine W_mixD ([rpB bp s a n c τ', (.own (v1) 72 4 (H.Cores.map enc)), (.own (v3) 77 3 (H.Links.map enc)), (.own (v4) 79 5 (H.Mems.map enc)), (.own (v5) 81 5 (H.Devs.map enc))]) [.blk b6 (.cells #[.string H.Name, v1, .slice qa qm qc, v3, v4, v5] 29)] ((.own (.slice qa qm qc) 75 5 (cs.map cC)) :: .blk b3 (.cells (enc (⟨0, 0⟩ : PosT)).toArray 31) :: .blk b2 (.cells hwZ.toArray 29) :: S) [] [118, 119, 120, 121] [] [[],[],[],[],[],[],[],[],[],[],[],[],[],[],[],[],[],[],[],[],[],[],[],[1],[1],[1],[1],[],[0,1]] [[],[0],[],[],[],[],[],[],[],[],[],[],[],[],[],[],[],[],[],[],[],[],[],[1],[1],[1],[1],[],[0,1]] (by rw [List.append_nil]; exact hw.ps [3, 2, 6, 6, 6, 6, 6]) ?_
      repeat (first | refine mY ?_ | refine mP ?_ | refine mPg ?_)
      refine mY ?_ (hy := fun Y w g hw => y_idxI (i := 0) hw r0 rfl rfl (by omega) (by omega))
      refine mY (v := .int .u64 x0) ?_ (hy := fun Y w g hw => y_loadE1 (k := 0) rfl (r0.rd hw) rfl)
      refine mY ?_
      repeat (first | refine mY ?_ | refine mP ?_ | refine mPg ?_)
      refine mY ?_ (hy := fun Y w g hw => y_idxI (i := 0) hw r1 rfl rfl (by omega) (by omega))
      refine mY (v := .int .u64 x1) ?_ (hy := fun Y w g hw => y_loadE1 (k := 0) rfl (r1.rd hw) rfl)
      refine mY ?_
      repeat (first | refine mY ?_ | refine mP ?_ | refine mPg ?_)
      refine mY ?_ (hy := fun Y w g hw => y_idxI (i := 0) hw r2 rfl rfl (by omega) (by omega))
      refine mY (v := .int .u64 x2) ?_ (hy := fun Y w g hw => y_loadE1 (k := 0) rfl (r2.rd hw) rfl)
      repeat (first | refine mY ?_ | refine mP ?_ | refine mPg ?_)
      have hlen3 : (x3 :: t3).length ≤ 1000000 := by
        have : (x3 :: t3).length ≤ toks.length := attrP_len hA _ (aGet_mem hg3)
        omega
      refine mCallT (X := (.own (.slice qa qm qc) 75 5 (cs.map cC)) :: .blk b3 (.cells (enc (⟨0, 0⟩ : PosT)).toArray 31) :: .blk b2 (.cells hwZ.toArray 29) :: S) (fun t => .own (.slice t.1 t.2.1 t.2.2) 3 1 (intRows ((x3 :: t3).map fun v => IntKind.i64.wrap v)) :: (.own (.slice qa qm qc) 75 5 (cs.map cC)) :: .blk b3 (.cells (enc (⟨0, 0⟩ : PosT)).toArray 31) :: .blk b2 (.cells hwZ.toArray 29) :: S) ?_ ?_
      · intro S' w hw
        refine (ints_any r3 hlen3 hw).mono ?_
        rintro e w' ⟨v, h1, h2⟩
        obtain ⟨ua, um, uc, rfl, -, -, -⟩ := h2.own_shape (i := 0) rfl
        exact ⟨ua, um, uc, h1, h2⟩
      refine mPureX (T := Option Addr × Nat × Nat) (fun t => .agg (cC (⟨y0, IntKind.i64.wrap x0, IntKind.i64.wrap x1, x2, t.1, t.2.1, t.2.2, ((x3 :: t3).map fun v => IntKind.i64.wrap v)⟩ : CacheH)).toArray) ?_ ?_
      · intro t g w Y h hw
        have h2 : g 118 = .slice t.1 t.2.1 t.2.2 := h
        refine y_build ?_
        show fillL _ _ [(0, _), (1, _), (2, _), (3, _), (4, g 118)] = _
        rw [h2]; rfl
      refine mBuildX (T := Option Addr × Nat × Nat) (fun t => [cC (⟨y0, IntKind.i64.wrap x0, IntKind.i64.wrap x1, x2, t.1, t.2.1, t.2.2, ((x3 :: t3).map fun v => IntKind.i64.wrap v)⟩ : CacheH)]) ?_ ?_
      rotate_left
      · intro t g h
        have h2 : g 119 = _ := h.2
        show fillL _ _ [(0, g 119)] = _
        rw [h2]; rfl
      refine mAppX (T := (Option Addr × Nat × Nat) × Addr) (j := 2) (j2 := 0) (fun t => some t.2) (fun t => [cC (⟨y0, IntKind.i64.wrap x0, IntKind.i64.wrap x1, x2, t.1.1, t.1.2.1, t.1.2.2, ((x3 :: t3).map fun v => IntKind.i64.wrap v)⟩ : CacheH)]) ?_ ?_
      rotate_left
      · intro t g h; exact h.2
      repeat (first | refine mY ?_ | refine mP ?_ | refine mPg ?_)
      refine mJoinX (T := ((Option Addr × Nat × Nat) × Addr) × Value) (j := 2) (val := fun t => t.2) ?_ ?_
      rotate_left
      · intro t g h; exact h.2
      refine mEndD fun t w g h hw => ?_
      obtain ⟨⟨⟨ua, um, uc⟩, aD⟩, vv⟩ := t
      have hw : Wd Γ2 (.own (.slice ua um uc) 3 1 (intRows ((x3 :: t3).map fun v => IntKind.i64.wrap v)) :: .own (.slice (some aD) 1 1) 75 5 [cC (⟨y0, IntKind.i64.wrap x0, IntKind.i64.wrap x1, x2, ua, um, uc, ((x3 :: t3).map fun v => IntKind.i64.wrap v)⟩ : CacheH)] :: rpB bp s a n c τ' :: .blk b6 (.cells #[.string H.Name, v1, vv, v3, v4, v5] 29) :: (.own (v1) 72 4 (H.Cores.map enc)) :: (.own (vv) 75 5 (cs.map cC ++ [cC (⟨y0, IntKind.i64.wrap x0, IntKind.i64.wrap x1, x2, ua, um, uc, ((x3 :: t3).map fun v => IntKind.i64.wrap v)⟩ : CacheH)])) :: (.own (v3) 77 3 (H.Links.map enc)) :: (.own (v4) 79 5 (H.Mems.map enc)) :: (.own (v5) 81 5 (H.Devs.map enc)) :: .blk b3 (.cells (enc (⟨0, 0⟩ : PosT)).toArray 31) :: .blk b2 (.cells hwZ.toArray 29) :: S) w := (hw.flip).ps [4, 4, 4, 8, 5, 6, 6, 7, 8]
      obtain ⟨Γ3, hle3, rA, hw⟩ := Wd.freeze hw
      have hw : Wd Γ3 (rpB bp s a n c τ' :: .blk b6 (.cells #[.string H.Name, v1, vv, v3, v4, v5] 29) :: (.own (v1) 72 4 (H.Cores.map enc)) :: (.own (vv) 75 5 ((cs ++ [(⟨y0, IntKind.i64.wrap x0, IntKind.i64.wrap x1, x2, ua, um, uc, ((x3 :: t3).map fun v => IntKind.i64.wrap v)⟩ : CacheH)]).map cC)) :: (.own (v3) 77 3 (H.Links.map enc)) :: (.own (v4) 79 5 (H.Mems.map enc)) :: (.own (v5) 81 5 (H.Devs.map enc)) :: .blk b3 (.cells (enc (⟨0, 0⟩ : PosT)).toArray 31) :: .blk b2 (.cells hwZ.toArray 29) :: S) w := by rw [List.map_append]; exact hw.drop
      have hi : itemP toks (endP s) k0 H = .ok ({ H with Caches := H.Caches ++ [(⟨y0, IntKind.i64.wrap x0, IntKind.i64.wrap x1, x2, ((x3 :: t3).map fun v => IntKind.i64.wrap v)⟩ : CacheT)] }, τ'.I) := by rw [hi]; unfold intOf; rw [hx0, hx1, hx2, hg3]; rfl
      have hok3 : ∀ c ∈ cs ++ [(⟨y0, IntKind.i64.wrap x0, IntKind.i64.wrap x1, x2, ua, um, uc, ((x3 :: t3).map fun v => IntKind.i64.wrap v)⟩ : CacheH)], COk Γ3 c := fun c hc => by
        rcases List.mem_append.1 hc with hc | hc
        · exact (hok2 c hc).mono hle3
        · cases List.mem_singleton.1 hc; exact rA
      repeat (first | refine byW ?_ | (refine byV ?_; intro w hw))
      obtain ⟨gk1, gk2, gsm, -⟩ := itemP_ok hi
      exact ⟨f, by omega, τ', { H with Caches := H.Caches ++ [(⟨y0, IntKind.i64.wrap x0, IntKind.i64.wrap x1, x2, ((x3 :: t3).map fun v => IntKind.i64.wrap v)⟩ : CacheT)] }, Γ3, _, _, _, _, _, cs ++ [(⟨y0, IntKind.i64.wrap x0, IntKind.i64.wrap x1, x2, ua, um, uc, ((x3 :: t3).map fun v => IntKind.i64.wrap v)⟩ : CacheH)], hle.trans (hle2.trans hle3), hτ'I, by rw [List.map_append, hcs]; rfl, hok3, by rw [if_pos he]; exact ⟨by omega, set_H hX hi, gsm hsm⟩, ⟨rfl, rfl, rfl, rfl, trivial⟩, hw⟩
    have hn2 : ¬ t.Text = cacheB := of_decide_eq_false h
    clear h
    repeat (first | refine byW ?_ | (refine byV ?_; intro w hw))
    refine W_cond rfl (fun h => ?_) (fun h => ?_)
    · have hT : t.Text = linkB := of_decide_eq_true h
      have hIt : itemP toks (endP s) k0 H = PR.map (fun c => { H with Links := H.Links ++ [c] }) (linkP toks (endP s) (k0 + 1)) := by unfold itemP; rw [hN1]; dsimp only; rw [hT]; rfl
      have hAt : attrL t.Text = [latencyB] := by rw [hT]; rfl
      repeat (first | refine byW ?_ | (refine byV ?_; intro w hw))
      refine lCall ?_
      refine (Int_any hI1 hw).mono ?_
      clear hw
      rintro r w ⟨rfl, hw⟩
      refine ⟨_, rfl, ?_⟩
      obtain ⟨q0, hq0⟩ : ∃ q, q = intR toks (endP s) ⟨k0 + 1, p0, 0⟩ := ⟨_, rfl⟩
      have hqI0 := intR_I (toks := toks) (τ := ⟨k0 + 1, p0, 0⟩) (e := endP s) (by show k0 + 1 ≤ toks.length; omega)
      rw [← hq0] at hw hqI0 ⊢
      obtain ⟨y0, σ0⟩ := q0
      dsimp only at hw hqI0 ⊢
      repeat (first | refine byW ?_ | (refine byV ?_; intro w hw))
      refine lCall ?_
      refine (Int_any (by omega) hw).mono ?_
      clear hw
      rintro r w ⟨rfl, hw⟩
      refine ⟨_, rfl, ?_⟩
      obtain ⟨q1, hq1⟩ : ∃ q, q = intR toks (endP s) σ0 := ⟨_, rfl⟩
      have hqI1 := intR_I (toks := toks) (τ := σ0) (e := endP s) hqI0
      rw [← hq1] at hw hqI1 ⊢
      obtain ⟨y1, σ1⟩ := q1
      dsimp only at hw hqI1 ⊢
      repeat (first | refine byW ?_ | (refine byV ?_; intro w hw))
      refine lCall ?_
      refine (Attributes_any t.Text hw).mono ?_
      clear hw
      rintro r w ⟨vn, rfl, hw⟩
      refine ⟨_, rfl, ?_⟩
      rw [hAt] at hw
      have hw := hw.ps [1]
      refine lCall ?_
      refine (item_ref [latencyB] vn (by omega) (by decide) (by decide) hw).mono ?_
      clear hw
      rintro r w ⟨Γ2, vo, τ', hle2, rfl, hτ'I, hpost, hw⟩
      refine ⟨_, rfl, ?_⟩
      have hok2 : ∀ c ∈ cs, COk Γ2 c := fun c hc => (hok c hc).mono hle2
      have hw : Wd Γ2 (rpB bp s a n c τ' :: .blk b6 (.cells #[.string H.Name, v1, v2, v3, v4, v5] 29) :: (.own (v1) 72 4 (H.Cores.map enc)) :: (.own (v2) 75 5 (cs.map cC)) :: (.own (v3) 77 3 (H.Links.map enc)) :: (.own (v4) 79 5 (H.Mems.map enc)) :: (.own (v5) 81 5 (H.Devs.map enc)) :: .blk b3 (.cells (enc (⟨0, 0⟩ : PosT)).toArray 31) :: .blk b2 (.cells hwZ.toArray 29) :: S) w := hw
      repeat (first | refine byW ?_ | (refine byV ?_; intro w hw) | (apply L_plain; apply L_go; refine lPs ?_; intro w hw) | (apply L_guarded; apply L_go; refine lPsG ?_; intro w hw))
      have hD : (τ'.er ≠ 0 ∧ itemP toks (endP s) k0 H = .error (τ'.p, τ'.er)) ∨ (∃ (got : Got) (k1 : Nat) (hs : List NumH), τ'.er = 0 ∧ attrP toks (endP s) [latencyB] k1 = .ok (got, τ'.I) ∧ RepS Γ2 vo 1 (osR hs) ∧ (∀ h ∈ hs, NOk Γ2 h) ∧ hs.map (·.L) = [latencyB].map (fun s => (aGet got s).getD []) ∧ itemP toks (endP s) k0 H = .ok ({ H with Links := H.Links ++ [(⟨y0, y1, intOf got latencyB⟩ : LinkT)] }, τ'.I)) := by
        have hs0 := intR_st (toks := toks) (e := endP s) (τ := ⟨k0 + 1, p0, 0⟩) rfl
        rw [← hq0] at hs0
        dsimp only at hs0
        cases hQ0 : numberP toks (endP s) true (k0 + 1) with
        | error q =>
          obtain ⟨p, er⟩ := q
          rw [hQ0] at hs0
          obtain ⟨g1, g2, g3, -⟩ := hs0
          have g4 : σ0.er ≠ 0 := by rw [g2]; exact g3
          have e1 : σ1 = σ0 := by have := congrArg Prod.snd hq1; rw [intR_er g4] at this; exact this
          rw [e1, if_neg g4] at hpost
          obtain ⟨g5, g6, g7⟩ := hpost
          refine .inl ⟨by rw [g6]; exact g7, ?_⟩
          rw [hIt]
          unfold linkP
          rw [hQ0, g5, g6, g1, g2]; rfl
        | ok q =>
          obtain ⟨z0, k1⟩ := q
          rw [hQ0] at hs0
          cases hs0
          have hs1 := intR_st (toks := toks) (e := endP s) (τ := ⟨k1, p0, 0⟩) rfl
          rw [← hq1] at hs1
          dsimp only at hs1
          cases hQ1 : numberP toks (endP s) true k1 with
          | error q =>
            obtain ⟨p, er⟩ := q
            rw [hQ1] at hs1
            obtain ⟨g1, g2, g3, -⟩ := hs1
            have g4 : σ1.er ≠ 0 := by rw [g2]; exact g3
            rw [if_neg g4] at hpost
            obtain ⟨g5, g6, g7⟩ := hpost
            refine .inl ⟨by rw [g6]; exact g7, ?_⟩
            rw [hIt]
            unfold linkP
            rw [hQ0]
            dsimp only
            rw [hQ1, g5, g6, g1, g2]; rfl
          | ok q =>
            obtain ⟨z1, k2⟩ := q
            rw [hQ1] at hs1
            cases hs1
            rw [if_pos rfl] at hpost
            cases hA : attrP toks (endP s) [latencyB] k2 with
            | error q =>
              obtain ⟨p, er⟩ := q
              rw [hA] at hpost
              obtain ⟨g5, g6, g7⟩ := hpost
              refine .inl ⟨by rw [g6]; exact g7, ?_⟩
              rw [hIt]
              unfold linkP
              rw [hQ0]
              dsimp only
              rw [hQ1]
              dsimp only
              rw [hA, g5, g6]; rfl
            | ok q =>
              obtain ⟨got, k9⟩ := q
              rw [hA] at hpost
              obtain ⟨g5, g6, hs, g7, g8, g9⟩ := hpost
              refine .inr ⟨got, k2, hs, g5, by rw [g6]; exact hA, g7, g8, g9, ?_⟩
              rw [hIt]
              unfold linkP
              rw [hQ0]
              dsimp only
              rw [hQ1]
              dsimp only
              rw [hA, g6]; rfl
      rcases hD with ⟨he, hi⟩ | ⟨got, k1, hs, he, hA, hrv, hokh, hms, hi⟩
      · refine W_cond_false (by show Value.bool (decide (τ'.er = 0)) = _; rw [decide_eq_false he]) ?_
        repeat (first | refine byW ?_ | (refine byV ?_; intro w hw))
        exact ⟨f, by omega, τ', H, Γ2, _, _, _, _, _, cs, hle.trans hle2, hτ'I, hcs, hok2, by rw [if_neg he]; exact set_E hX hi, ⟨rfl, rfl, rfl, rfl, trivial⟩, hw⟩
      refine W_cond_true (by show Value.bool (decide (τ'.er = 0)) = _; rw [decide_eq_true he]) ?_
      obtain ⟨va, vm, vc, rfl, hvm⟩ := attr_some hrv hokh hms
      simp only [List.length_map, List.length_cons, List.length_nil] at hvm
      obtain ⟨A0, N0, C0, x0, t0, hh0, r0, hN0, hx0, hg0⟩ := attr_at hA hms hokh (i := 0) (nm := latencyB) rfl
      have hP0 : 0 < N0 := by rw [hN0]; exact Nat.succ_pos _
      obtain ⟨qa, qm, qc, rfl, hqm, -, -⟩ := hw.own_shape (i := 4) rfl
      simp only [List.length_map] at hqm
      have gsm' := hsm
      obtain ⟨s1, s2, s3, s4, s5⟩ := gsm'
      repeat (first | refine byW ?_ | (refine byV ?_; intro w hw))
      refine W_mix2 ([rpB bp s a n c τ', (.own (v1) 72 4 (H.Cores.map enc)), (.own (v2) 75 5 (cs.map cC)), (.own (v4) 79 5 (H.Mems.map enc)), (.own (v5) 81 5 (H.Devs.map enc))]) (.blk b6 (.cells #[.string H.Name, v1, v2, .slice qa qm qc, v4, v5] 29) :: (.own (.slice qa qm qc) 77 3 (H.Links.map enc)) :: .blk b3 (.cells (enc (⟨0, 0⟩ : PosT)).toArray 31) :: .blk b2 (.cells hwZ.toArray 29) :: S) [[],[],[],[],[],[],[],[],[],[],[],[1],[0],[],[0]] [[],[0],[],[],[],[],[],[],[],[],[],[1],[0,1],[],[0]] [[147], [146]] (hw.ps [4, 2, 6, 6, 6, 6, 6]) ?_
      repeat (first | refine mY ?_ | refine mP ?_ | refine mPg ?_)
      refine mY ?_ (hy := fun Y w g hw => y_idxI (i := 0) hw r0 rfl rfl (by omega) (by omega))
      refine mY (v := .int .u64 x0) ?_ (hy := fun Y w g hw => y_loadE1 (k := 0) rfl (r0.rd hw) rfl)
      refine mY ?_
      refine mY (v := .agg (enc (⟨y0, y1, IntKind.i64.wrap x0⟩ : LinkT)).toArray) ?_ (hy := fun Y w g hw => y_build rfl)
      refine mBuild [enc (⟨y0, y1, IntKind.i64.wrap x0⟩ : LinkT)] ?_
      refine mApp ?_
      repeat (first | refine mY ?_ | refine mP ?_ | refine mEndAt ?_ | refine mEnd0 ?_ | refine mEnd ?_)
      refine mStoreV ?_
      refine mEnd fun w g hw => ?_
      have hw := Wd.dropEnd hw
      have hw : Wd Γ2 (rpB bp s a n c τ' :: .blk b6 (.cells #[.string H.Name, v1, v2, g 147, v4, v5] 29) :: (.own (v1) 72 4 (H.Cores.map enc)) :: (.own (v2) 75 5 (cs.map cC)) :: (.own (g 147) 77 3 ((H.Links.map enc) ++ [enc (⟨y0, y1, IntKind.i64.wrap x0⟩ : LinkT)])) :: (.own (v4) 79 5 (H.Mems.map enc)) :: (.own (v5) 81 5 (H.Devs.map enc)) :: .blk b3 (.cells (enc (⟨0, 0⟩ : PosT)).toArray 31) :: .blk b2 (.cells hwZ.toArray 29) :: S) w := hw.ps [4, 4, 6, 5, 5, 6, 6]
      generalize g 147 = vv at hw
      have hi : itemP toks (endP s) k0 H = .ok ({ H with Links := H.Links ++ [(⟨y0, y1, IntKind.i64.wrap x0⟩ : LinkT)] }, τ'.I) := by rw [hi]; unfold intOf; rw [hx0]
      have hw : Wd Γ2 (rpB bp s a n c τ' :: .blk b6 (.cells #[.string H.Name, v1, v2, vv, v4, v5] 29) :: (.own (v1) 72 4 (H.Cores.map enc)) :: (.own (v2) 75 5 (cs.map cC)) :: (.own (vv) 77 3 ((H.Links ++ [(⟨y0, y1, IntKind.i64.wrap x0⟩ : LinkT)]).map enc)) :: (.own (v4) 79 5 (H.Mems.map enc)) :: (.own (v5) 81 5 (H.Devs.map enc)) :: .blk b3 (.cells (enc (⟨0, 0⟩ : PosT)).toArray 31) :: .blk b2 (.cells hwZ.toArray 29) :: S) w := by rw [List.map_append]; exact hw
      repeat (first | refine byW ?_ | (refine byV ?_; intro w hw))
      obtain ⟨gk1, gk2, gsm, -⟩ := itemP_ok hi
      exact ⟨f, by omega, τ', { H with Links := H.Links ++ [(⟨y0, y1, IntKind.i64.wrap x0⟩ : LinkT)] }, Γ2, _, _, _, _, _, cs, hle.trans hle2, hτ'I, hcs, hok2, by rw [if_pos he]; exact ⟨by omega, set_H hX hi, gsm hsm⟩, ⟨rfl, rfl, rfl, rfl, trivial⟩, hw⟩
    have hn3 : ¬ t.Text = linkB := of_decide_eq_false h
    clear h
    repeat (first | refine byW ?_ | (refine byV ?_; intro w hw))
    refine W_cond rfl (fun h => ?_) (fun h => ?_)
    · have hT : t.Text = memoryB := of_decide_eq_true h
      have hIt : itemP toks (endP s) k0 H = PR.map (fun c => { H with Mems := H.Mems ++ [c] }) (memP toks (endP s) (k0 + 1)) := by unfold itemP; rw [hN1]; dsimp only; rw [hT]; rfl
      have hAt : attrL t.Text = [baseB, sizeB, nodeB, latencyB] := by rw [hT]; rfl
      repeat (first | refine byW ?_ | (refine byV ?_; intro w hw))
      refine lCall ?_
      refine (Name_any 1 hI1 hw).mono ?_
      clear hw
      rintro r w ⟨rfl, hw⟩
      refine ⟨_, rfl, ?_⟩
      obtain ⟨q0, hq0⟩ : ∃ q, q = nameR toks (endP s) ⟨k0 + 1, p0, 0⟩ 1 := ⟨_, rfl⟩
      have hqI0 := nameR_I (toks := toks) (τ := ⟨k0 + 1, p0, 0⟩) (e := endP s) (kind := 1) (by show k0 + 1 ≤ toks.length; omega)
      rw [← hq0] at hw hqI0 ⊢
      obtain ⟨y0, σ0⟩ := q0
      dsimp only at hw hqI0 ⊢
      repeat (first | refine byW ?_ | (refine byV ?_; intro w hw))
      refine lCall ?_
      refine (Attributes_any t.Text hw).mono ?_
      clear hw
      rintro r w ⟨vn, rfl, hw⟩
      refine ⟨_, rfl, ?_⟩
      rw [hAt] at hw
      have hw := hw.ps [1]
      refine lCall ?_
      refine (item_ref [baseB, sizeB, nodeB, latencyB] vn (by omega) (by decide) (by decide) hw).mono ?_
      clear hw
      rintro r w ⟨Γ2, vo, τ', hle2, rfl, hτ'I, hpost, hw⟩
      refine ⟨_, rfl, ?_⟩
      have hok2 : ∀ c ∈ cs, COk Γ2 c := fun c hc => (hok c hc).mono hle2
      have hw : Wd Γ2 (rpB bp s a n c τ' :: .blk b6 (.cells #[.string H.Name, v1, v2, v3, v4, v5] 29) :: (.own (v1) 72 4 (H.Cores.map enc)) :: (.own (v2) 75 5 (cs.map cC)) :: (.own (v3) 77 3 (H.Links.map enc)) :: (.own (v4) 79 5 (H.Mems.map enc)) :: (.own (v5) 81 5 (H.Devs.map enc)) :: .blk b3 (.cells (enc (⟨0, 0⟩ : PosT)).toArray 31) :: .blk b2 (.cells hwZ.toArray 29) :: S) w := hw
      repeat (first | refine byW ?_ | (refine byV ?_; intro w hw) | (apply L_plain; apply L_go; refine lPs ?_; intro w hw) | (apply L_guarded; apply L_go; refine lPsG ?_; intro w hw))
      have hD : (τ'.er ≠ 0 ∧ itemP toks (endP s) k0 H = .error (τ'.p, τ'.er)) ∨ (∃ (got : Got) (k1 : Nat) (hs : List NumH), τ'.er = 0 ∧ attrP toks (endP s) [baseB, sizeB, nodeB, latencyB] k1 = .ok (got, τ'.I) ∧ RepS Γ2 vo 1 (osR hs) ∧ (∀ h ∈ hs, NOk Γ2 h) ∧ hs.map (·.L) = [baseB, sizeB, nodeB, latencyB].map (fun s => (aGet got s).getD []) ∧ itemP toks (endP s) k0 H = .ok ({ H with Mems := H.Mems ++ [(⟨y0, numOf got baseB, numOf got sizeB, intOf got nodeB, intOf got latencyB⟩ : MemT)] }, τ'.I)) := by
        have hs0 := nameR_st (toks := toks) (e := endP s) (τ := ⟨k0 + 1, p0, 0⟩) (kind := 1) rfl
        rw [← hq0] at hs0
        dsimp only at hs0
        cases hQ0 : nameP toks (endP s) 1 (k0 + 1) with
        | error q =>
          obtain ⟨p, er⟩ := q
          rw [hQ0] at hs0
          obtain ⟨g1, g2, g3, -⟩ := hs0
          have g4 : σ0.er ≠ 0 := by rw [g2]; exact g3
          rw [if_neg g4] at hpost
          obtain ⟨g5, g6, g7⟩ := hpost
          refine .inl ⟨by rw [g6]; exact g7, ?_⟩
          rw [hIt]
          unfold memP
          rw [hQ0, g5, g6, g1, g2]; rfl
        | ok q =>
          obtain ⟨z0, k1⟩ := q
          rw [hQ0] at hs0
          cases hs0
          rw [if_pos rfl] at hpost
          cases hA : attrP toks (endP s) [baseB, sizeB, nodeB, latencyB] k1 with
          | error q =>
            obtain ⟨p, er⟩ := q
            rw [hA] at hpost
            obtain ⟨g5, g6, g7⟩ := hpost
            refine .inl ⟨by rw [g6]; exact g7, ?_⟩
            rw [hIt]
            unfold memP
            rw [hQ0]
            dsimp only
            rw [hA, g5, g6]; rfl
          | ok q =>
            obtain ⟨got, k9⟩ := q
            rw [hA] at hpost
            obtain ⟨g5, g6, hs, g7, g8, g9⟩ := hpost
            refine .inr ⟨got, k1, hs, g5, by rw [g6]; exact hA, g7, g8, g9, ?_⟩
            rw [hIt]
            unfold memP
            rw [hQ0]
            dsimp only
            rw [hA, g6]; rfl
      rcases hD with ⟨he, hi⟩ | ⟨got, k1, hs, he, hA, hrv, hokh, hms, hi⟩
      · refine W_cond_false (by show Value.bool (decide (τ'.er = 0)) = _; rw [decide_eq_false he]) ?_
        repeat (first | refine byW ?_ | (refine byV ?_; intro w hw))
        exact ⟨f, by omega, τ', H, Γ2, _, _, _, _, _, cs, hle.trans hle2, hτ'I, hcs, hok2, by rw [if_neg he]; exact set_E hX hi, ⟨rfl, rfl, rfl, rfl, trivial⟩, hw⟩
      refine W_cond_true (by show Value.bool (decide (τ'.er = 0)) = _; rw [decide_eq_true he]) ?_
      obtain ⟨va, vm, vc, rfl, hvm⟩ := attr_some hrv hokh hms
      simp only [List.length_map, List.length_cons, List.length_nil] at hvm
      obtain ⟨A0, N0, C0, x0, t0, hh0, r0, hN0, hx0, hg0⟩ := attr_at hA hms hokh (i := 0) (nm := baseB) rfl
      have hP0 : 0 < N0 := by rw [hN0]; exact Nat.succ_pos _
      obtain ⟨A1, N1, C1, x1, t1, hh1, r1, hN1, hx1, hg1⟩ := attr_at hA hms hokh (i := 1) (nm := sizeB) rfl
      have hP1 : 0 < N1 := by rw [hN1]; exact Nat.succ_pos _
      obtain ⟨A2, N2, C2, x2, t2, hh2, r2, hN2, hx2, hg2⟩ := attr_at hA hms hokh (i := 2) (nm := nodeB) rfl
      have hP2 : 0 < N2 := by rw [hN2]; exact Nat.succ_pos _
      obtain ⟨A3, N3, C3, x3, t3, hh3, r3, hN3, hx3, hg3⟩ := attr_at hA hms hokh (i := 3) (nm := latencyB) rfl
      have hP3 : 0 < N3 := by rw [hN3]; exact Nat.succ_pos _
      obtain ⟨qa, qm, qc, rfl, hqm, -, -⟩ := hw.own_shape (i := 5) rfl
      simp only [List.length_map] at hqm
      have gsm' := hsm
      obtain ⟨s1, s2, s3, s4, s5⟩ := gsm'
      repeat (first | refine byW ?_ | (refine byV ?_; intro w hw))
      refine W_mix2 ([rpB bp s a n c τ', (.own (v1) 72 4 (H.Cores.map enc)), (.own (v2) 75 5 (cs.map cC)), (.own (v3) 77 3 (H.Links.map enc)), (.own (v5) 81 5 (H.Devs.map enc))]) (.blk b6 (.cells #[.string H.Name, v1, v2, v3, .slice qa qm qc, v5] 29) :: (.own (.slice qa qm qc) 79 5 (H.Mems.map enc)) :: .blk b3 (.cells (enc (⟨0, 0⟩ : PosT)).toArray 31) :: .blk b2 (.cells hwZ.toArray 29) :: S) [[],[],[],[],[],[],[],[],[],[],[],[],[],[],[],[],[],[],[],[],[],[],[],[],[],[],[1],[0],[],[0]] [[],[0],[],[],[],[],[],[],[],[],[],[],[],[],[],[],[],[],[],[],[],[],[],[],[],[],[1],[0,1],[],[0]] [[186], [185]] (hw.ps [5, 2, 6, 6, 6, 6, 6]) ?_
      repeat (first | refine mY ?_ | refine mP ?_ | refine mPg ?_)
      refine mY ?_ (hy := fun Y w g hw => y_idxI (i := 0) hw r0 rfl rfl (by omega) (by omega))
      refine mY (v := .int .u64 x0) ?_ (hy := fun Y w g hw => y_loadE1 (k := 0) rfl (r0.rd hw) rfl)
      repeat (first | refine mY ?_ | refine mP ?_ | refine mPg ?_)
      refine mY ?_ (hy := fun Y w g hw => y_idxI (i := 0) hw r1 rfl rfl (by omega) (by omega))
      refine mY (v := .int .u64 x1) ?_ (hy := fun Y w g hw => y_loadE1 (k := 0) rfl (r1.rd hw) rfl)
      repeat (first | refine mY ?_ | refine mP ?_ | refine mPg ?_)
      refine mY ?_ (hy := fun Y w g hw => y_idxI (i := 0) hw r2 rfl rfl (by omega) (by omega))
      refine mY (v := .int .u64 x2) ?_ (hy := fun Y w g hw => y_loadE1 (k := 0) rfl (r2.rd hw) rfl)
      refine mY ?_
      repeat (first | refine mY ?_ | refine mP ?_ | refine mPg ?_)
      refine mY ?_ (hy := fun Y w g hw => y_idxI (i := 0) hw r3 rfl rfl (by omega) (by omega))
      refine mY (v := .int .u64 x3) ?_ (hy := fun Y w g hw => y_loadE1 (k := 0) rfl (r3.rd hw) rfl)
      refine mY ?_
      refine mY (v := .agg (enc (⟨y0, x0, x1, IntKind.i64.wrap x2, IntKind.i64.wrap x3⟩ : MemT)).toArray) ?_ (hy := fun Y w g hw => y_build rfl)
      refine mBuild [enc (⟨y0, x0, x1, IntKind.i64.wrap x2, IntKind.i64.wrap x3⟩ : MemT)] ?_
      refine mApp ?_
      repeat (first | refine mY ?_ | refine mP ?_ | refine mEndAt ?_ | refine mEnd0 ?_ | refine mEnd ?_)
      refine mStoreV ?_
      refine mEnd fun w g hw => ?_
      have hw := Wd.dropEnd hw
      have hw : Wd Γ2 (rpB bp s a n c τ' :: .blk b6 (.cells #[.string H.Name, v1, v2, v3, g 186, v5] 29) :: (.own (v1) 72 4 (H.Cores.map enc)) :: (.own (v2) 75 5 (cs.map cC)) :: (.own (v3) 77 3 (H.Links.map enc)) :: (.own (g 186) 79 5 ((H.Mems.map enc) ++ [enc (⟨y0, x0, x1, IntKind.i64.wrap x2, IntKind.i64.wrap x3⟩ : MemT)])) :: (.own (v5) 81 5 (H.Devs.map enc)) :: .blk b3 (.cells (enc (⟨0, 0⟩ : PosT)).toArray 31) :: .blk b2 (.cells hwZ.toArray 29) :: S) w := hw.ps [4, 6, 5, 5, 5, 6, 6]
      generalize g 186 = vv at hw
      have hi : itemP toks (endP s) k0 H = .ok ({ H with Mems := H.Mems ++ [(⟨y0, x0, x1, IntKind.i64.wrap x2, IntKind.i64.wrap x3⟩ : MemT)] }, τ'.I) := by rw [hi]; unfold intOf; rw [hx0, hx1, hx2, hx3]
      have hw : Wd Γ2 (rpB bp s a n c τ' :: .blk b6 (.cells #[.string H.Name, v1, v2, v3, vv, v5] 29) :: (.own (v1) 72 4 (H.Cores.map enc)) :: (.own (v2) 75 5 (cs.map cC)) :: (.own (v3) 77 3 (H.Links.map enc)) :: (.own (vv) 79 5 ((H.Mems ++ [(⟨y0, x0, x1, IntKind.i64.wrap x2, IntKind.i64.wrap x3⟩ : MemT)]).map enc)) :: (.own (v5) 81 5 (H.Devs.map enc)) :: .blk b3 (.cells (enc (⟨0, 0⟩ : PosT)).toArray 31) :: .blk b2 (.cells hwZ.toArray 29) :: S) w := by rw [List.map_append]; exact hw
      repeat (first | refine byW ?_ | (refine byV ?_; intro w hw))
      obtain ⟨gk1, gk2, gsm, -⟩ := itemP_ok hi
      exact ⟨f, by omega, τ', { H with Mems := H.Mems ++ [(⟨y0, x0, x1, IntKind.i64.wrap x2, IntKind.i64.wrap x3⟩ : MemT)] }, Γ2, _, _, _, _, _, cs, hle.trans hle2, hτ'I, hcs, hok2, by rw [if_pos he]; exact ⟨by omega, set_H hX hi, gsm hsm⟩, ⟨rfl, rfl, rfl, rfl, trivial⟩, hw⟩
    have hn4 : ¬ t.Text = memoryB := of_decide_eq_false h
    clear h
    repeat (first | refine byW ?_ | (refine byV ?_; intro w hw))
    refine W_cond rfl (fun h => ?_) (fun h => ?_)
    · have hT : t.Text = deviceB := of_decide_eq_true h
      have hIt : itemP toks (endP s) k0 H = PR.map (fun c => { H with Devs := H.Devs ++ [c] }) (devP toks (endP s) (k0 + 1)) := by unfold itemP; rw [hN1]; dsimp only; rw [hT]; rfl
      have hAt : attrL t.Text = [nodeB, irqB, baseB, sizeB] := by rw [hT]; rfl
      repeat (first | refine byW ?_ | (refine byV ?_; intro w hw))
      refine lCall ?_
      refine (Name_any 1 hI1 hw).mono ?_
      clear hw
      rintro r w ⟨rfl, hw⟩
      refine ⟨_, rfl, ?_⟩
      obtain ⟨q0, hq0⟩ : ∃ q, q = nameR toks (endP s) ⟨k0 + 1, p0, 0⟩ 1 := ⟨_, rfl⟩
      have hqI0 := nameR_I (toks := toks) (τ := ⟨k0 + 1, p0, 0⟩) (e := endP s) (kind := 1) (by show k0 + 1 ≤ toks.length; omega)
      rw [← hq0] at hw hqI0 ⊢
      obtain ⟨y0, σ0⟩ := q0
      dsimp only at hw hqI0 ⊢
      repeat (first | refine byW ?_ | (refine byV ?_; intro w hw))
      refine lCall ?_
      refine (Attributes_any t.Text hw).mono ?_
      clear hw
      rintro r w ⟨vn, rfl, hw⟩
      refine ⟨_, rfl, ?_⟩
      rw [hAt] at hw
      have hw := hw.ps [1]
      refine lCall ?_
      refine (item_ref [nodeB, irqB, baseB, sizeB] vn (by omega) (by decide) (by decide) hw).mono ?_
      clear hw
      rintro r w ⟨Γ2, vo, τ', hle2, rfl, hτ'I, hpost, hw⟩
      refine ⟨_, rfl, ?_⟩
      have hok2 : ∀ c ∈ cs, COk Γ2 c := fun c hc => (hok c hc).mono hle2
      have hw : Wd Γ2 (rpB bp s a n c τ' :: .blk b6 (.cells #[.string H.Name, v1, v2, v3, v4, v5] 29) :: (.own (v1) 72 4 (H.Cores.map enc)) :: (.own (v2) 75 5 (cs.map cC)) :: (.own (v3) 77 3 (H.Links.map enc)) :: (.own (v4) 79 5 (H.Mems.map enc)) :: (.own (v5) 81 5 (H.Devs.map enc)) :: .blk b3 (.cells (enc (⟨0, 0⟩ : PosT)).toArray 31) :: .blk b2 (.cells hwZ.toArray 29) :: S) w := hw
      repeat (first | refine byW ?_ | (refine byV ?_; intro w hw) | (apply L_plain; apply L_go; refine lPs ?_; intro w hw) | (apply L_guarded; apply L_go; refine lPsG ?_; intro w hw))
      have hD : (τ'.er ≠ 0 ∧ itemP toks (endP s) k0 H = .error (τ'.p, τ'.er)) ∨ (∃ (got : Got) (k1 : Nat) (hs : List NumH), τ'.er = 0 ∧ attrP toks (endP s) [nodeB, irqB, baseB, sizeB] k1 = .ok (got, τ'.I) ∧ RepS Γ2 vo 1 (osR hs) ∧ (∀ h ∈ hs, NOk Γ2 h) ∧ hs.map (·.L) = [nodeB, irqB, baseB, sizeB].map (fun s => (aGet got s).getD []) ∧ itemP toks (endP s) k0 H = .ok ({ H with Devs := H.Devs ++ [(⟨y0, intOf got nodeB, intOf got irqB, numOf got baseB, numOf got sizeB⟩ : DevT)] }, τ'.I)) := by
        have hs0 := nameR_st (toks := toks) (e := endP s) (τ := ⟨k0 + 1, p0, 0⟩) (kind := 1) rfl
        rw [← hq0] at hs0
        dsimp only at hs0
        cases hQ0 : nameP toks (endP s) 1 (k0 + 1) with
        | error q =>
          obtain ⟨p, er⟩ := q
          rw [hQ0] at hs0
          obtain ⟨g1, g2, g3, -⟩ := hs0
          have g4 : σ0.er ≠ 0 := by rw [g2]; exact g3
          rw [if_neg g4] at hpost
          obtain ⟨g5, g6, g7⟩ := hpost
          refine .inl ⟨by rw [g6]; exact g7, ?_⟩
          rw [hIt]
          unfold devP
          rw [hQ0, g5, g6, g1, g2]; rfl
        | ok q =>
          obtain ⟨z0, k1⟩ := q
          rw [hQ0] at hs0
          cases hs0
          rw [if_pos rfl] at hpost
          cases hA : attrP toks (endP s) [nodeB, irqB, baseB, sizeB] k1 with
          | error q =>
            obtain ⟨p, er⟩ := q
            rw [hA] at hpost
            obtain ⟨g5, g6, g7⟩ := hpost
            refine .inl ⟨by rw [g6]; exact g7, ?_⟩
            rw [hIt]
            unfold devP
            rw [hQ0]
            dsimp only
            rw [hA, g5, g6]; rfl
          | ok q =>
            obtain ⟨got, k9⟩ := q
            rw [hA] at hpost
            obtain ⟨g5, g6, hs, g7, g8, g9⟩ := hpost
            refine .inr ⟨got, k1, hs, g5, by rw [g6]; exact hA, g7, g8, g9, ?_⟩
            rw [hIt]
            unfold devP
            rw [hQ0]
            dsimp only
            rw [hA, g6]; rfl
      rcases hD with ⟨he, hi⟩ | ⟨got, k1, hs, he, hA, hrv, hokh, hms, hi⟩
      · refine W_cond_false (by show Value.bool (decide (τ'.er = 0)) = _; rw [decide_eq_false he]) ?_
        repeat (first | refine byW ?_ | (refine byV ?_; intro w hw))
        exact ⟨f, by omega, τ', H, Γ2, _, _, _, _, _, cs, hle.trans hle2, hτ'I, hcs, hok2, by rw [if_neg he]; exact set_E hX hi, ⟨rfl, rfl, rfl, rfl, trivial⟩, hw⟩
      refine W_cond_true (by show Value.bool (decide (τ'.er = 0)) = _; rw [decide_eq_true he]) ?_
      obtain ⟨va, vm, vc, rfl, hvm⟩ := attr_some hrv hokh hms
      simp only [List.length_map, List.length_cons, List.length_nil] at hvm
      obtain ⟨A0, N0, C0, x0, t0, hh0, r0, hN0, hx0, hg0⟩ := attr_at hA hms hokh (i := 0) (nm := nodeB) rfl
      have hP0 : 0 < N0 := by rw [hN0]; exact Nat.succ_pos _
      obtain ⟨A1, N1, C1, x1, t1, hh1, r1, hN1, hx1, hg1⟩ := attr_at hA hms hokh (i := 1) (nm := irqB) rfl
      have hP1 : 0 < N1 := by rw [hN1]; exact Nat.succ_pos _
      obtain ⟨A2, N2, C2, x2, t2, hh2, r2, hN2, hx2, hg2⟩ := attr_at hA hms hokh (i := 2) (nm := baseB) rfl
      have hP2 : 0 < N2 := by rw [hN2]; exact Nat.succ_pos _
      obtain ⟨A3, N3, C3, x3, t3, hh3, r3, hN3, hx3, hg3⟩ := attr_at hA hms hokh (i := 3) (nm := sizeB) rfl
      have hP3 : 0 < N3 := by rw [hN3]; exact Nat.succ_pos _
      obtain ⟨qa, qm, qc, rfl, hqm, -, -⟩ := hw.own_shape (i := 6) rfl
      simp only [List.length_map] at hqm
      have gsm' := hsm
      obtain ⟨s1, s2, s3, s4, s5⟩ := gsm'
      repeat (first | refine byW ?_ | (refine byV ?_; intro w hw))
      refine W_mix2 ([rpB bp s a n c τ', (.own (v1) 72 4 (H.Cores.map enc)), (.own (v2) 75 5 (cs.map cC)), (.own (v3) 77 3 (H.Links.map enc)), (.own (v4) 79 5 (H.Mems.map enc))]) (.blk b6 (.cells #[.string H.Name, v1, v2, v3, v4, .slice qa qm qc] 29) :: (.own (.slice qa qm qc) 81 5 (H.Devs.map enc)) :: .blk b3 (.cells (enc (⟨0, 0⟩ : PosT)).toArray 31) :: .blk b2 (.cells hwZ.toArray 29) :: S) [[],[],[],[],[],[],[],[],[],[],[],[],[],[],[],[],[],[],[],[],[],[],[],[],[],[],[1],[0],[],[0]] [[],[0],[],[],[],[],[],[],[],[],[],[],[],[],[],[],[],[],[],[],[],[],[],[],[],[],[1],[0,1],[],[0]] [[225], [224]] (hw.ps [6, 2, 6, 6, 6, 6, 6]) ?_
      repeat (first | refine mY ?_ | refine mP ?_ | refine mPg ?_)
      refine mY ?_ (hy := fun Y w g hw => y_idxI (i := 0) hw r0 rfl rfl (by omega) (by omega))
      refine mY (v := .int .u64 x0) ?_ (hy := fun Y w g hw => y_loadE1 (k := 0) rfl (r0.rd hw) rfl)
      refine mY ?_
      repeat (first | refine mY ?_ | refine mP ?_ | refine mPg ?_)
      refine mY ?_ (hy := fun Y w g hw => y_idxI (i := 0) hw r1 rfl rfl (by omega) (by omega))
      refine mY (v := .int .u64 x1) ?_ (hy := fun Y w g hw => y_loadE1 (k := 0) rfl (r1.rd hw) rfl)
      refine mY ?_
      repeat (first | refine mY ?_ | refine mP ?_ | refine mPg ?_)
      refine mY ?_ (hy := fun Y w g hw => y_idxI (i := 0) hw r2 rfl rfl (by omega) (by omega))
      refine mY (v := .int .u64 x2) ?_ (hy := fun Y w g hw => y_loadE1 (k := 0) rfl (r2.rd hw) rfl)
      repeat (first | refine mY ?_ | refine mP ?_ | refine mPg ?_)
      refine mY ?_ (hy := fun Y w g hw => y_idxI (i := 0) hw r3 rfl rfl (by omega) (by omega))
      refine mY (v := .int .u64 x3) ?_ (hy := fun Y w g hw => y_loadE1 (k := 0) rfl (r3.rd hw) rfl)
      refine mY (v := .agg (enc (⟨y0, IntKind.i64.wrap x0, IntKind.i64.wrap x1, x2, x3⟩ : DevT)).toArray) ?_ (hy := fun Y w g hw => y_build rfl)
      refine mBuild [enc (⟨y0, IntKind.i64.wrap x0, IntKind.i64.wrap x1, x2, x3⟩ : DevT)] ?_
      refine mApp ?_
      repeat (first | refine mY ?_ | refine mP ?_ | refine mEndAt ?_ | refine mEnd0 ?_ | refine mEnd ?_)
      refine mStoreV ?_
      refine mEnd fun w g hw => ?_
      have hw := Wd.dropEnd hw
      have hw : Wd Γ2 (rpB bp s a n c τ' :: .blk b6 (.cells #[.string H.Name, v1, v2, v3, v4, g 225] 29) :: (.own (v1) 72 4 (H.Cores.map enc)) :: (.own (v2) 75 5 (cs.map cC)) :: (.own (v3) 77 3 (H.Links.map enc)) :: (.own (v4) 79 5 (H.Mems.map enc)) :: (.own (g 225) 81 5 ((H.Devs.map enc) ++ [enc (⟨y0, IntKind.i64.wrap x0, IntKind.i64.wrap x1, x2, x3⟩ : DevT)])) :: .blk b3 (.cells (enc (⟨0, 0⟩ : PosT)).toArray 31) :: .blk b2 (.cells hwZ.toArray 29) :: S) w := hw.ps [6, 5, 5, 5, 5, 6, 6]
      generalize g 225 = vv at hw
      have hi : itemP toks (endP s) k0 H = .ok ({ H with Devs := H.Devs ++ [(⟨y0, IntKind.i64.wrap x0, IntKind.i64.wrap x1, x2, x3⟩ : DevT)] }, τ'.I) := by rw [hi]; unfold intOf; rw [hx0, hx1, hx2, hx3]
      have hw : Wd Γ2 (rpB bp s a n c τ' :: .blk b6 (.cells #[.string H.Name, v1, v2, v3, v4, vv] 29) :: (.own (v1) 72 4 (H.Cores.map enc)) :: (.own (v2) 75 5 (cs.map cC)) :: (.own (v3) 77 3 (H.Links.map enc)) :: (.own (v4) 79 5 (H.Mems.map enc)) :: (.own (vv) 81 5 ((H.Devs ++ [(⟨y0, IntKind.i64.wrap x0, IntKind.i64.wrap x1, x2, x3⟩ : DevT)]).map enc)) :: .blk b3 (.cells (enc (⟨0, 0⟩ : PosT)).toArray 31) :: .blk b2 (.cells hwZ.toArray 29) :: S) w := by rw [List.map_append]; exact hw
      repeat (first | refine byW ?_ | (refine byV ?_; intro w hw))
      obtain ⟨gk1, gk2, gsm, -⟩ := itemP_ok hi
      exact ⟨f, by omega, τ', { H with Devs := H.Devs ++ [(⟨y0, IntKind.i64.wrap x0, IntKind.i64.wrap x1, x2, x3⟩ : DevT)] }, Γ2, _, _, _, _, _, cs, hle.trans hle2, hτ'I, hcs, hok2, by rw [if_pos he]; exact ⟨by omega, set_H hX hi, gsm hsm⟩, ⟨rfl, rfl, rfl, rfl, trivial⟩, hw⟩
    have hn5 : ¬ t.Text = deviceB := of_decide_eq_false h
    clear h
    repeat (first | refine byW ?_ | (refine byV ?_; intro w hw))
    have hX := set_E hX (q := (posOf toks k0 (endP s), 50)) (by unfold itemP; rw [hN1]; dsimp only; rw [if_neg hn1, if_neg hn2, if_neg hn3, if_neg hn4, if_neg hn5])
    refine lCall ?_
    refine (Fail_any (k0 : Int) k0 50 (fun _ => rfl) hw).mono ?_
    clear hw
    rintro r w ⟨rfl, hw⟩
    refine ⟨_, rfl, ?_⟩
    have hF : failS toks (endP s) ⟨k0 + 1, p0, 0⟩ k0 50 = ⟨k0 + 1, posOf toks k0 (endP s), 50⟩ := rfl
    rw [hF] at hw
    repeat (first | refine byW ?_ | (refine byV ?_; intro w hw))
    exact ⟨f, by omega, _, H, Γ', _, _, _, _, _, cs, hle, (by show k0 + 1 ≤ n; omega), hcs, hok, by rw [if_neg (show ¬ (50 : Int) = 0 by decide)]; exact hX, ⟨rfl, rfl, rfl, rfl, trivial⟩, hw⟩
  clear hw hX1 hI3 hI2 hI1
  rintro ρ w ⟨τ, H, Γ', v1, v2, v3, v4, v5, cs, hle, hτI, hcs, hok, hmid, hρ, hw⟩
  rw [hρ.eq]
  clear hρ
  haveI := hRT.mono hle
  obtain ⟨a1, n1, c1, rfl, -, -, -⟩ := hw.own_shape (i := 2) rfl
  obtain ⟨a2, n2, c2, rfl, -, -, -⟩ := hw.own_shape (i := 3) rfl
  obtain ⟨a3, n3, c3, rfl, -, -, -⟩ := hw.own_shape (i := 4) rfl
  obtain ⟨a4, n4, c4, rfl, -, -, -⟩ := hw.own_shape (i := 5) rfl
  obtain ⟨a5, n5, c5, rfl, -, -, -⟩ := hw.own_shape (i := 6) rfl
  repeat (first | refine byW ?_ | (refine byV ?_; intro w hw))
  refine lCall ?_
  refine (Need_any 4 closeB hw).mono ?_
  clear hw
  rintro r w ⟨rfl, hw⟩
  refine ⟨_, rfl, ?_⟩
  have hfin : if (needS toks (endP s) τ 4 closeB).er = 0 ∧ (needS toks (endP s) τ 4 closeB).I < toks.length then finX toks (endP s) X1 = .error (posOf toks (needS toks (endP s) τ 4 closeB).I (endP s), 50) else OutP H (needS toks (endP s) τ 4 closeB) (finX toks (endP s) X1) := by
    cases X1 with
    | error q =>
      obtain ⟨p, er⟩ := q
      obtain ⟨g1, g2, g3⟩ := hmid
      have g4 : τ.er ≠ 0 := by rw [g2]; exact g3
      rw [needS_er g4, if_neg (fun q => g4 q.1)]
      exact ⟨g1, g2, g3⟩
    | ok q =>
      obtain ⟨H', k4⟩ := q
      obtain ⟨g1, g2, g3, g4⟩ := hmid
      have hN : needS toks (endP s) τ 4 closeB = ⟨τ.I + 1, τ.p, τ.er⟩ := by
        unfold needS
        rw [if_pos (by rw [decide_eq_true g1, Bool.true_and, g2]; exact g4)]
      rw [hN]
      dsimp only
      by_cases hlt : τ.I + 1 < toks.length
      · rw [if_pos ⟨g1, hlt⟩]
        show (if k4 + 1 < toks.length then _ else _) = _
        rw [if_pos (by omega), g2]
      · rw [if_neg (fun q => hlt q.2)]
        have : finX toks (endP s) (.ok (H', k4)) = .ok (H', k4 + 1) := by
          show (if k4 + 1 < toks.length then _ else _) = _
          rw [if_neg (by omega)]
        rw [this]
        exact ⟨g1, g3.symm⟩
  have hI4 := needS_I (toks := toks) (σ := τ) (e := endP s) (kind := 4) (text := closeB) (by omega)
  generalize finX toks (endP s) X1 = XF at *
  generalize needS toks (endP s) τ 4 closeB = τ1 at *
  clear hmid
  repeat (first | refine byW ?_ | (refine byV ?_; intro w hw) | (apply L_plain; apply L_go; refine lPs ?_; intro w hw) | (apply L_guarded; apply L_go; refine lPsG ?_; intro w hw))
  refine W_cutT (fun ρ w => ∃ τ2 : RS, OutP H τ2 XF ∧ Has ρ [(2, .pointer (some ⟨b2, 0, none⟩)), (3, .pointer (some ⟨b3, 0, none⟩)), (5, .pointer (some ⟨bp, 0, none⟩)), (6, .pointer (some ⟨b6, 0, none⟩))] ∧ Wd Γ' (rpB bp s a n c τ2 :: .blk b6 (.cells #[.string H.Name, .slice a1 n1 c1, .slice a2 n2 c2, .slice a3 n3 c3, .slice a4 n4 c4, .slice a5 n5 c5] 29) :: (.own (.slice a1 n1 c1) 72 4 (H.Cores.map enc)) :: (.own (.slice a2 n2 c2) 75 5 (cs.map cC)) :: (.own (.slice a3 n3 c3) 77 3 (H.Links.map enc)) :: (.own (.slice a4 n4 c4) 79 5 (H.Mems.map enc)) :: (.own (.slice a5 n5 c5) 81 5 (H.Devs.map enc)) :: .blk b3 (.cells (enc (⟨0, 0⟩ : PosT)).toArray 31) :: .blk b2 (.cells hwZ.toArray 29) :: S) w) ?_ ?_
  · refine W_cond rfl (fun h => ?_) (fun h => ?_)
    · have h : (decide (τ1.er = 0) && !decide ((n : Int) ≤ τ1.I)) = true := h
      have h1 : τ1.er = 0 := of_decide_eq_true (andL h)
      have h2 : τ1.I < toks.length := by have := guard_lt h; omega
      rw [if_pos ⟨h1, h2⟩] at hfin
      repeat (first | refine byW ?_ | (refine byV ?_; intro w hw))
      refine lCall ?_
      refine (Fail_any (τ1.I : Int) τ1.I 50 (fun _ => rfl) hw).mono ?_
      clear hw
      rintro r w ⟨rfl, hw⟩
      refine ⟨_, rfl, ?_⟩
      have hF : failS toks (endP s) τ1 τ1.I 50 = ⟨τ1.I, posOf toks τ1.I (endP s), 50⟩ := by unfold failS; rw [if_pos h1]
      rw [hF] at hw
      repeat (first | refine byW ?_ | (refine byV ?_; intro w hw))
      exact ⟨⟨τ1.I, posOf toks τ1.I (endP s), 50⟩, by rw [hfin]; exact ⟨rfl, rfl, by decide⟩, ⟨rfl, rfl, rfl, rfl, trivial⟩, hw⟩
    · have h : (decide (τ1.er = 0) && !decide ((n : Int) ≤ τ1.I)) = false := h
      rw [if_neg (fun q => by
        have : (decide (τ1.er = 0) && !decide ((n : Int) ≤ τ1.I)) = true := by
          rw [decide_eq_true q.1, decide_eq_false (by omega)]; rfl
        rw [this] at h; cases h)] at hfin
      repeat (first | refine byW ?_ | (refine byV ?_; intro w hw))
      exact ⟨τ1, hfin, ⟨rfl, rfl, rfl, rfl, trivial⟩, hw⟩
  clear hw hfin
  rintro ρ w ⟨τ2, hout, hρ, hw⟩
  rw [hρ.eq]
  clear hρ
  repeat (first | refine byW ?_ | (refine byV ?_; intro w hw) | (apply L_plain; apply L_go; refine lPs ?_; intro w hw) | (apply L_guarded; apply L_go; refine lPsG ?_; intro w hw))
  refine W_cond rfl (fun h => ?_) (fun h => ?_)
  · have h : τ2.er ≠ 0 := by
      have h : (!decide (τ2.er = 0)) = true := h
      simpa using h
    cases XF with
    | ok q => exact absurd hout.1 h
    | error q =>
      obtain ⟨p, er⟩ := q
      obtain ⟨g1, g2, g3⟩ := hout
      obtain ⟨I2, p2, e2⟩ := τ2
      have g1 : p2 = p := g1
      have g2 : e2 = er := g2
      subst g1 g2
      repeat (first | refine byW ?_ | (refine byV ?_; intro w hw))
      have hw : Wd Γ' ((.blk bp (.cells #[.string s, .slice a n c, .int .i64 I2, .int .i64 p2.Line, .int .i64 p2.Col, .int .i64 e2] 60)) :: .blk b3 (.cells (enc (⟨0, 0⟩ : PosT)).toArray 31) :: .blk b2 (.cells hwZ.toArray 29) :: S) w := ((((((hw.dropAt 6).dropAt 5).dropAt 4).dropAt 3).dropAt 2).dropAt 1)
      refine W_mixC [(.blk bp (.cells #[.string s, .slice a n c, .int .i64 I2, .int .i64 p2.Line, .int .i64 p2.Col, .int .i64 e2] 60))] (.blk b3 (.cells (enc (⟨0, 0⟩ : PosT)).toArray 31) :: .blk b2 (.cells hwZ.toArray 29) :: S) [] [[],[],[],[],[],[],[],[],[],[0],[0],[]] hw ?_
      repeat (first | refine mY ?_ | refine mP ?_ | refine mPg ?_)
      refine mStepX (φ := fun (_ : Unit) _ => True) (R := fun _ => .blk b3 (.cells (enc (⟨0, 0⟩ : PosT)).toArray 31) :: .blk b2 (.cells hwZ.toArray 29) :: S) (v := undef) (T' := Unit) (fun _ _ => True) (fun _ => .blk b3 (.cells (enc (⟨0, 0⟩ : PosT)).toArray 31) :: .blk b2 (.cells hwZ.toArray 29) :: S) (fun t' g w Y _ hw => s_store (i := 1) (inferInstance : TSz Tryz.prog 29 6).h hw rfl (v := .agg hwZ.toArray) rfl (vs := hwZ) rfl rfl (fun u hu => (List.all_eq_true.1 (rfl : hwZ.all (·.oneCell') = true)) u hu) rfl (Nat.le_of_ble_eq_true rfl) fun w' hw' => ⟨(), trivial, fun _ => rfl, hw'⟩) ?_
      refine mStepX (φ := fun (_ : Unit) _ => True) (R := fun _ => .blk b3 (.cells (enc (⟨0, 0⟩ : PosT)).toArray 31) :: .blk b2 (.cells hwZ.toArray 29) :: S) (v := undef) (T' := Unit) (fun _ _ => True) (fun _ => .blk b3 (.cells (enc p2).toArray 31) :: .blk b2 (.cells hwZ.toArray 29) :: S) (fun t' g w Y _ hw => s_store (i := 0) (inferInstance : TSz Tryz.prog 31 2).h hw rfl (v := .agg (enc p2).toArray) rfl (vs := enc p2) rfl rfl (fun u hu => (List.all_eq_true.1 (enc_one p2)) u hu) rfl (Nat.le_of_ble_eq_true rfl) fun w' hw' => ⟨(), trivial, fun _ => rfl, hw'⟩) ?_
      repeat (first | refine mY ?_ | refine mP ?_ | refine mPg ?_)
      refine mEndX fun t' w g _ hw => ?_
      have hw : Wd Γ' (.blk b3 (.cells (enc p2).toArray 31) :: .blk b2 (.cells hwZ.toArray 29) :: S) w := Wd.left (S := .blk b3 _ :: .blk b2 _ :: S) hw
      repeat (first | refine byW ?_ | (refine byV ?_; intro w hw))
      exact ⟨[.agg hwZ.toArray, .agg (enc p2).toArray, .int .i64 e2], ⟨resC (i := 1) hw rfl rfl rfl, resC (i := 0) hw rfl rfl rfl, rfl, trivial⟩, Γ', _, hle1.trans hle, rfl, .slice none 0 0, .slice none 0 0, .slice none 0 0, .slice none 0 0, .slice none 0 0, [], rfl, by simp, rfl, Wd.addNil (Wd.addNil (Wd.addNil (Wd.addNil (Wd.addNil hw.drop.drop))))⟩
  · have h : τ2.er = 0 := by
      have h : (!decide (τ2.er = 0)) = false := h
      simpa using h
    cases XF with
    | error q =>
      obtain ⟨p, er⟩ := q
      exact absurd (hout.2.1.symm.trans h) hout.2.2
    | ok q =>
      obtain ⟨H', k5⟩ := q
      obtain ⟨-, g2⟩ := hout
      have g2 : H' = H := g2
      subst g2
      have hw := hw.drop
      have hw : Wd Γ' (.blk b6 (.cells #[.string H'.Name, .slice a1 n1 c1, .slice a2 n2 c2, .slice a3 n3 c3, .slice a4 n4 c4, .slice a5 n5 c5] 29) :: .blk b3 (.cells (enc (⟨0, 0⟩ : PosT)).toArray 31) :: .blk b2 (.cells hwZ.toArray 29) :: (.own (.slice a1 n1 c1) 72 4 (H'.Cores.map enc)) :: (.own (.slice a2 n2 c2) 75 5 (cs.map cC)) :: (.own (.slice a3 n3 c3) 77 3 (H'.Links.map enc)) :: (.own (.slice a4 n4 c4) 79 5 (H'.Mems.map enc)) :: (.own (.slice a5 n5 c5) 81 5 (H'.Devs.map enc)) :: S) w := hw.ps [5, 5, 5, 5, 5, 7, 7, 7]
      repeat (first | refine byW ?_ | (refine byV ?_; intro w hw))
      refine lStore (i := 2) ?_
      intro w hw
      refine lStore (i := 1) ?_
      intro w hw
      have hw : Wd Γ' (.blk b6 (.cells #[.string H'.Name, .slice a1 n1 c1, .slice a2 n2 c2, .slice a3 n3 c3, .slice a4 n4 c4, .slice a5 n5 c5] 29) :: .blk b3 (.cells (enc (⟨0, 0⟩ : PosT)).toArray 31) :: .blk b2 (.cells #[.string H'.Name, .slice a1 n1 c1, .slice a2 n2 c2, .slice a3 n3 c3, .slice a4 n4 c4, .slice a5 n5 c5] 29) :: (.own (.slice a1 n1 c1) 72 4 (H'.Cores.map enc)) :: (.own (.slice a2 n2 c2) 75 5 (cs.map cC)) :: (.own (.slice a3 n3 c3) 77 3 (H'.Links.map enc)) :: (.own (.slice a4 n4 c4) 79 5 (H'.Mems.map enc)) :: (.own (.slice a5 n5 c5) 81 5 (H'.Devs.map enc)) :: S) w := hw
      repeat (first | refine byW ?_ | (refine byV ?_; intro w hw))
      exact ⟨[.agg #[.string H'.Name, .slice a1 n1 c1, .slice a2 n2 c2, .slice a3 n3 c3, .slice a4 n4 c4, .slice a5 n5 c5], .agg (enc (⟨0, 0⟩ : PosT)).toArray, .int .i64 0], ⟨resC (i := 2) hw rfl rfl rfl, resC (i := 1) hw rfl rfl rfl, rfl, trivial⟩, Γ', _, hle1.trans hle, rfl, _, _, _, _, _, cs, hcs, hok, rfl, hw.drop.drop.drop⟩

end Go.Proofs.YtnkekcippfdbgaaGreat
end
/- The reference's SameInts and Equal (printed by a program). -/
section
open Go Mk
namespace Go.Proofs.YtnkekcippfdbgaaGreat
set_option maxHeartbeats 16000000
attribute [local irreducible] Calls

/-- A description in memory that is never changed again, its names of any length. -/
class HwQ (Γ : Gho) (u : Value) (H : outParam HwT) : Prop where
  h : ∃ (a1 : Option Addr) (n1 c1 : Nat) (a2 : Option Addr) (n2 c2 : Nat) (a3 : Option Addr) (n3 c3 : Nat) (a4 : Option Addr) (n4 c4 : Nat) (a5 : Option Addr) (n5 c5 : Nat) (cs : List CacheH),
    u = .agg #[.string H.Name, .slice a1 n1 c1, .slice a2 n2 c2, .slice a3 n3 c3, .slice a4 n4 c4, .slice a5 n5 c5] ∧ cs.map CacheH.T = H.Caches ∧ (∀ c ∈ cs, COk Γ c) ∧
    RepS Γ (.slice a1 n1 c1) 4 (H.Cores.map enc) ∧ RepS Γ (.slice a2 n2 c2) 5 (cs.map cC) ∧ RepS Γ (.slice a3 n3 c3) 3 (H.Links.map enc) ∧ RepS Γ (.slice a4 n4 c4) 5 (H.Mems.map enc) ∧ RepS Γ (.slice a5 n5 c5) 5 (H.Devs.map enc)
instance hwq_r {Γ : Gho} {u : Value} {H : HwT} [hh : HwR Γ u H] : HwQ Γ u H := by
  obtain ⟨a1, n1, c1, a2, n2, c2, a3, n3, c3, a4, n4, c4, a5, n5, c5, cs, h1, h2, h3, -, r⟩ := hh.h
  exact ⟨a1, n1, c1, a2, n2, c2, a3, n3, c3, a4, n4, c4, a5, n5, c5, cs, h1, h2, h3, r⟩
theorem HwQ.mono {Γ Γ' : Gho} {u : Value} {H : HwT} (hh : HwQ Γ u H) (hle : Γ.le Γ') : HwQ Γ' u H := by
  obtain ⟨a1, n1, c1, a2, n2, c2, a3, n3, c3, a4, n4, c4, a5, n5, c5, cs, h1, h2, h3, r1, r2, r3, r4, r5⟩ := hh.h
  exact ⟨a1, n1, c1, a2, n2, c2, a3, n3, c3, a4, n4, c4, a5, n5, c5, cs, h1, h2, fun c hc => RepS.mono (h3 c hc) hle, r1.mono hle, r2.mono hle, r3.mono hle, r4.mono hle, r5.mono hle⟩
theorem HwOut.freezeQ {Γ : Gho} {S : List Res} {w : World} {H : HwT} {u : Value} (h : HwOut Γ H S u w) : ∃ Γ', Γ.le Γ' ∧ HwQ Γ' u H ∧ Wd Γ' S w := by
  obtain ⟨v1, v2, v3, v4, v5, cs, hcs, hok, rfl, hw⟩ := h
  obtain ⟨a1, n1, c1, rfl, -, -, -⟩ := hw.own_shape (i := 0) rfl
  obtain ⟨a2, n2, c2, rfl, -, -, -⟩ := hw.own_shape (i := 1) rfl
  obtain ⟨a3, n3, c3, rfl, -, -, -⟩ := hw.own_shape (i := 2) rfl
  obtain ⟨a4, n4, c4, rfl, -, -, -⟩ := hw.own_shape (i := 3) rfl
  obtain ⟨a5, n5, c5, rfl, -, -, -⟩ := hw.own_shape (i := 4) rfl
  obtain ⟨Γ1, e1, r1, hw⟩ := hw.freeze
  obtain ⟨Γ2, e2, r2, hw⟩ := hw.freeze
  obtain ⟨Γ3, e3, r3, hw⟩ := hw.freeze
  obtain ⟨Γ4, e4, r4, hw⟩ := hw.freeze
  obtain ⟨Γ5, e5, r5, hw⟩ := hw.freeze
  have f4 := e5
  have f3 := e4.trans f4
  have f2 := e3.trans f3
  have f1 := e2.trans f2
  exact ⟨Γ5, e1.trans f1, ⟨a1, n1, c1, a2, n2, c2, a3, n3, c3, a4, n4, c4, a5, n5, c5, cs, rfl, hcs, fun c hc => RepS.mono (hok c hc) (e1.trans f1), r1.mono f1, r2.mono f2, r3.mono f3, r4.mono f4, r5⟩, hw⟩
instance pg_SameInts {Γ : Gho} {v v2 : Value} {xs ys : List Int} [hr : SlC Γ v 1 (intRows xs)] [hr2 : SlC Γ v2 1 (intRows ys)] : PG Tryz.prog Γ 30 [v, v2] (.bool (decide (xs = ys))) := ⟨fun S w hw => by
  have hr := hr.h
  have hr2 := hr2.h
  obtain ⟨a, n, c, rfl, hn, hnc, hc⟩ := hr.shape
  obtain ⟨a', n', c', rfl, hn', hnc', hc'⟩ := hr2.shape
  simp only [intRows, List.length_map] at hn hn'
  refine calls_of_W Tryz.func30 rfl rfl ?_
  repeat (first | refine byW ?_ | (refine byV ?_; intro w hw))
  refine W_cond rfl (fun h => ?_) (fun h => ?_)
  · have h : n ≠ n' := by simp at h; omega
    repeat (first | refine byW ?_ | (refine byV ?_; intro w hw))
    exact ⟨_, rfl, ret_b rfl (decide_eq_false fun e => h (by rw [hn, hn', e])).symm, hw⟩
  have h : n = n' := by simp at h; omega
  repeat (first | refine byW ?_ | (refine byV ?_; intro w hw))
  refine W_loop (fun μ ρ w => ∃ (k : Nat), μ + k = n ∧ Has ρ [(0, .slice a n c), (1, .slice a' n' c'), (5, .int .i64 k)] ∧ (∀ (i : Nat) (x y : Int), i < k → xs[i]? = some x → ys[i]? = some y → x = y) ∧ Wd Γ S w) n ⟨0, by omega, ⟨rfl, rfl, rfl, trivial⟩, fun i x y hi => absurd hi (Nat.not_lt_zero i), hw⟩ ?_
  clear hw
  rintro μ ρ w ⟨k, hk, hρ, hall, hw⟩
  rw [hρ.eq]
  repeat (first | refine byW ?_ | (refine byV ?_; intro w hw))
  refine W_cond rfl (fun h2 => ?_) (fun h2 => ?_)
  · have hkn : k < n := by simpa using h2
    obtain ⟨x, hx⟩ := get_lt (l := xs) (k := k) (by omega)
    obtain ⟨y, hy⟩ := get_lt (l := ys) (k := k) (by omega)
    repeat (first | refine byW ?_ | (refine byV ?_; intro w hw))
    refine W_quiet (by kernel_rfl) (by kernel_rfl) hw ?_
    repeat (first | refine Q_nil ?_ | (apply Q_plain; first | (apply Q_go; first | refine qP ?_ | refine qPg ?_) | refine qY ?_) | (apply Q_guarded; first | (apply Q_go; first | refine qPG ?_ | refine qPgG ?_) | refine qG ?_))
    intro w hw
    refine W_cond rfl (fun h3 => ?_) (fun h3 => ?_)
    · have h3 : x ≠ y := of_decide_eq_true h3
      repeat (first | refine byW ?_ | (refine byV ?_; intro w hw))
      exact ⟨_, rfl, ret_b rfl (decide_eq_false fun e => h3 (by subst e; rw [hx] at hy; cases hy; rfl)).symm, hw⟩
    · have h3 : x = y := Classical.not_not.1 (of_decide_eq_false h3)
      repeat (first | refine byW ?_ | (refine byV ?_; intro w hw))
      exact ⟨μ - 1, by omega, k + 1, by omega, ⟨rfl, rfl, rfl, trivial⟩, eq_step hall hx hy h3, hw⟩
  · have hkn : ¬ k < n := by simpa using h2
    repeat (first | refine byW ?_ | (refine byV ?_; intro w hw))
    exact ⟨_, rfl, ret_b rfl (decide_eq_true (eq_of_all (by omega) (by omega) hall)).symm, hw⟩⟩
theorem cacheT_eq {x y : CacheT} (a : x.Name = y.Name) (b : x.Level = y.Level) (c : x.Line = y.Line) (d : x.Size = y.Size) (e : x.Cores = y.Cores) : x = y := by
  cases x; cases y
  simp only [CacheT.mk.injEq]
  exact ⟨a, b, c, d, e⟩
instance pg_REqual {Γ : Gho} {u u' : Value} {H G : HwT} [hh : HwQ Γ u H] [hg : HwQ Γ u' G] : PG Tryz.prog Γ 8 [u, u'] (.bool (decide (H = G))) := ⟨fun S w hw => by
  obtain ⟨a1, n1, c1, a2, n2, c2, a3, n3, c3, a4, n4, c4, a5, n5, c5, cs, rfl, hcs, hok, r1, r2, r3, r4, r5⟩ := hh.h
  obtain ⟨A1, N1, C1, A2, N2, C2, A3, N3, C3, A4, N4, C4, A5, N5, C5, cs', rfl, hcs', hok', R1, R2, R3, R4, R5⟩ := hg.h
  obtain ⟨hn1, hm1, hx1⟩ := rep_facts r1
  obtain ⟨HN1, HM1, HX1⟩ := rep_facts R1
  obtain ⟨hn2, hm2, hx2⟩ := rep_facts r2
  obtain ⟨HN2, HM2, HX2⟩ := rep_facts R2
  obtain ⟨hn3, hm3, hx3⟩ := rep_facts r3
  obtain ⟨HN3, HM3, HX3⟩ := rep_facts R3
  obtain ⟨hn4, hm4, hx4⟩ := rep_facts r4
  obtain ⟨HN4, HM4, HX4⟩ := rep_facts R4
  obtain ⟨hn5, hm5, hx5⟩ := rep_facts r5
  obtain ⟨HN5, HM5, HX5⟩ := rep_facts R5
  simp only [List.length_map] at hn1 hn2 hn3 hn4 hn5 HN1 HN2 HN3 HN4 HN5
  refine calls_of_W Tryz.func8 rfl rfl ?_
  repeat (first | refine byW ?_ | (refine byV ?_; intro w hw))
  refine lBox ?_
  intro b2 w hw
  refine lBox ?_
  intro b3 w hw
  have hw : Wd Γ (.blk b3 (.cells #[.string G.Name, .slice A1 N1 C1, .slice A2 N2 C2, .slice A3 N3 C3, .slice A4 N4 C4, .slice A5 N5 C5] 29) :: .blk b2 (.cells #[.string H.Name, .slice a1 n1 c1, .slice a2 n2 c2, .slice a3 n3 c3, .slice a4 n4 c4, .slice a5 n5 c5] 29) :: S) w := hw
  repeat (first | refine byW ?_ | (refine byV ?_; intro w hw))
  refine W_cond rfl (fun h => ?_) (fun h => ?_)
  · have hne : ¬ H = G := fun e => by
      subst e
      have q : (((((decide (H.Name ≠ H.Name) || decide ((n1 : Int) ≠ N1)) || decide ((n2 : Int) ≠ N2)) || decide ((n3 : Int) ≠ N3)) || decide ((n4 : Int) ≠ N4)) || decide ((n5 : Int) ≠ N5)) = true := h
      have q2 : cs.length = cs'.length := by have := congrArg List.length (hcs.trans hcs'.symm); simpa using this
      simp only [Bool.or_eq_true, decide_eq_true_eq] at q
      rcases q with ((((q | q) | q) | q) | q) | q
      · exact q rfl
      all_goals exact q (by omega)
    repeat (first | refine byW ?_ | (refine byV ?_; intro w hw))
    exact ⟨_, rfl, ret_b rfl (decide_eq_false hne).symm, hw.drop.drop⟩
  have hq : (((((decide (H.Name ≠ G.Name) || decide ((n1 : Int) ≠ N1)) || decide ((n2 : Int) ≠ N2)) || decide ((n3 : Int) ≠ N3)) || decide ((n4 : Int) ≠ N4)) || decide ((n5 : Int) ≠ N5)) = false := h
  simp only [Bool.or_eq_false_iff, decide_eq_false_iff_not, Classical.not_not] at hq
  obtain ⟨⟨⟨⟨⟨q0, q1⟩, q2⟩, q3⟩, q4⟩, q5⟩ := hq
  clear h
  repeat (first | refine byW ?_ | (refine byV ?_; intro w hw))
  refine W_cutB (fun ρ w => H.Cores = G.Cores ∧ Has ρ [(2, .pointer (some ⟨b2, 0, none⟩)), (3, .pointer (some ⟨b3, 0, none⟩))] ∧ Wd Γ (.blk b3 (.cells #[.string G.Name, .slice A1 N1 C1, .slice A2 N2 C2, .slice A3 N3 C3, .slice A4 N4 C4, .slice A5 N5 C5] 29) :: .blk b2 (.cells #[.string H.Name, .slice a1 n1 c1, .slice a2 n2 c2, .slice a3 n3 c3, .slice a4 n4 c4, .slice a5 n5 c5] 29) :: S) w) ?_ ?_
  · refine W_loop (fun μ ρ w => ∃ (k : Nat), μ + k = n1 ∧ Has ρ [(2, .pointer (some ⟨b2, 0, none⟩)), (3, .pointer (some ⟨b3, 0, none⟩)), (5, .int .i64 k)] ∧ (∀ (i : Nat) (x y : CoreT), i < k → H.Cores[i]? = some x → G.Cores[i]? = some y → x = y) ∧ Wd Γ (.blk b3 (.cells #[.string G.Name, .slice A1 N1 C1, .slice A2 N2 C2, .slice A3 N3 C3, .slice A4 N4 C4, .slice A5 N5 C5] 29) :: .blk b2 (.cells #[.string H.Name, .slice a1 n1 c1, .slice a2 n2 c2, .slice a3 n3 c3, .slice a4 n4 c4, .slice a5 n5 c5] 29) :: S) w) n1 ⟨0, by omega, ⟨rfl, rfl, rfl, trivial⟩, fun i x y hi => absurd hi (Nat.not_lt_zero i), hw⟩ ?_
    clear hw
    rintro μ ρ w ⟨k, hk, hρ, hall, hw⟩
    rw [hρ.eq]
    repeat (first | refine byW ?_ | (refine byV ?_; intro w hw))
    refine W_cond rfl (fun h2 => ?_) (fun h2 => ?_)
    · have hkn : k < n1 := by simpa using h2
      obtain ⟨x, hx⟩ := get_lt (l := H.Cores) (k := k) (by omega)
      obtain ⟨y, hy⟩ := get_lt (l := G.Cores) (k := k) (by omega)
      repeat (first | refine byW ?_ | (refine byV ?_; intro w hw))
      refine W_quiet (by kernel_rfl) (by kernel_rfl) hw ?_
      repeat (first | refine Q_nil ?_ | (apply Q_plain; first | (apply Q_go; first | refine qP ?_ | refine qPg ?_) | refine qY ?_) | (apply Q_guarded; first | (apply Q_go; first | refine qPG ?_ | refine qPgG ?_) | refine qG ?_))
      intro w hw
      refine W_cond rfl (fun h3 => ?_) (fun h3 => ?_)
      · have h3 : x ≠ y := of_decide_eq_true h3
        repeat (first | refine byW ?_ | (refine byV ?_; intro w hw))
        exact ⟨_, rfl, ret_b rfl (decide_eq_false fun e => h3 (by subst e; rw [hx] at hy; cases hy; rfl)).symm, hw.drop.drop⟩
      · have h3 : x = y := Classical.not_not.1 (of_decide_eq_false h3)
        repeat (first | refine byW ?_ | (refine byV ?_; intro w hw))
        exact ⟨μ - 1, by omega, k + 1, by omega, ⟨rfl, rfl, rfl, trivial⟩, eq_step hall hx hy h3, hw⟩
    · have hkn : ¬ k < n1 := by simpa using h2
      repeat (first | refine byW ?_ | (refine byV ?_; intro w hw))
      exact ⟨eq_of_all (by omega) (by omega) hall, ⟨rfl, rfl, trivial⟩, hw⟩
  clear hw
  rintro ρ w ⟨e1, hρ, hw⟩
  rw [hρ.eq]
  clear hρ
  repeat (first | refine byW ?_ | (refine byV ?_; intro w hw))
  refine W_cutB (fun ρ w => H.Caches = G.Caches ∧ Has ρ [(2, .pointer (some ⟨b2, 0, none⟩)), (3, .pointer (some ⟨b3, 0, none⟩))] ∧ Wd Γ (.blk b3 (.cells #[.string G.Name, .slice A1 N1 C1, .slice A2 N2 C2, .slice A3 N3 C3, .slice A4 N4 C4, .slice A5 N5 C5] 29) :: .blk b2 (.cells #[.string H.Name, .slice a1 n1 c1, .slice a2 n2 c2, .slice a3 n3 c3, .slice a4 n4 c4, .slice a5 n5 c5] 29) :: S) w) ?_ ?_
  · refine W_loop (fun μ ρ w => ∃ (k : Nat), μ + k = n2 ∧ Has ρ [(2, .pointer (some ⟨b2, 0, none⟩)), (3, .pointer (some ⟨b3, 0, none⟩)), (6, .int .i64 k)] ∧ (∀ (i : Nat) (x y : CacheT), i < k → (cs.map CacheH.T)[i]? = some x → (cs'.map CacheH.T)[i]? = some y → x = y) ∧ Wd Γ (.blk b3 (.cells #[.string G.Name, .slice A1 N1 C1, .slice A2 N2 C2, .slice A3 N3 C3, .slice A4 N4 C4, .slice A5 N5 C5] 29) :: .blk b2 (.cells #[.string H.Name, .slice a1 n1 c1, .slice a2 n2 c2, .slice a3 n3 c3, .slice a4 n4 c4, .slice a5 n5 c5] 29) :: S) w) n2 ⟨0, by omega, ⟨rfl, rfl, rfl, trivial⟩, fun i x y hi => absurd hi (Nat.not_lt_zero i), hw⟩ ?_
    clear hw
    rintro μ ρ w ⟨k, hk, hρ, hall, hw⟩
    rw [hρ.eq]
    repeat (first | refine byW ?_ | (refine byV ?_; intro w hw))
    refine W_cond rfl (fun h2 => ?_) (fun h2 => ?_)
    · have hkn : k < n2 := by simpa using h2
      obtain ⟨x, hx⟩ := get_lt (l := cs) (k := k) (by omega)
      obtain ⟨y, hy⟩ := get_lt (l := cs') (k := k) (by omega)
      have hx2 : (cs.map CacheH.T)[k]? = some x.T := by simp [hx]
      have hy2 : (cs'.map CacheH.T)[k]? = some y.T := by simp [hy]
      haveI : SlC Γ (.slice x.A x.N x.C) 1 (intRows x.Cores) := ⟨hok x (List.mem_of_getElem? hx)⟩
      haveI : SlC Γ (.slice y.A y.N y.C) 1 (intRows y.Cores) := ⟨hok' y (List.mem_of_getElem? hy)⟩
      repeat (first | refine byW ?_ | (refine byV ?_; intro w hw))
      refine W_mixed [.blk b3 (.cells #[.string G.Name, .slice A1 N1 C1, .slice A2 N2 C2, .slice A3 N3 C3, .slice A4 N4 C4, .slice A5 N5 C5] 29), .blk b2 (.cells #[.string H.Name, .slice a1 n1 c1, .slice a2 n2 c2, .slice a3 n3 c3, .slice a4 n4 c4, .slice a5 n5 c5] 29)] [fun _ => [], fun _ => [], fun _ => S] [[],[],[],[],[],[],[],[],[],[],[0],[1],[0],[1]] [[],[],[],[],[],[],[],[],[],[],[0],[1],[0],[1]] [[7], [8], []] (by have := hw; simpa [List.range, List.range.loop, ML] using this) ?_
      repeat (first | refine mY ?_ | refine mP ?_ | refine mPg ?_)
      refine mAlloc ?_
      refine mAlloc ?_
      refine mStoreAt ?_
      refine mStoreAt ?_
      refine mEnd fun w g hw => ?_
      have hw : Wd Γ (.blk b3 (.cells #[.string G.Name, .slice A1 N1 C1, .slice A2 N2 C2, .slice A3 N3 C3, .slice A4 N4 C4, .slice A5 N5 C5] 29) :: .blk b2 (.cells #[.string H.Name, .slice a1 n1 c1, .slice a2 n2 c2, .slice a3 n3 c3, .slice a4 n4 c4, .slice a5 n5 c5] 29) :: atP (g 7) _ :: atP (g 8) _ :: (S ++ [])) w := hw
      rw [List.append_nil] at hw
      obtain ⟨b7, hg7, hw⟩ := (Wd.ps [2] hw).openAt
      have hw : Wd Γ (.blk b7 (.cells (cC x).toArray 75) :: .blk b3 (.cells #[.string G.Name, .slice A1 N1 C1, .slice A2 N2 C2, .slice A3 N3 C3, .slice A4 N4 C4, .slice A5 N5 C5] 29) :: .blk b2 (.cells #[.string H.Name, .slice a1 n1 c1, .slice a2 n2 c2, .slice a3 n3 c3, .slice a4 n4 c4, .slice a5 n5 c5] 29) :: atP (g 8) _ :: S) w := hw
      obtain ⟨b8, hg8, hw⟩ := (Wd.ps [3] hw).openAt
      have hw : Wd Γ (.blk b8 (.cells (cC y).toArray 75) :: .blk b7 (.cells (cC x).toArray 75) :: .blk b3 (.cells #[.string G.Name, .slice A1 N1 C1, .slice A2 N2 C2, .slice A3 N3 C3, .slice A4 N4 C4, .slice A5 N5 C5] 29) :: .blk b2 (.cells #[.string H.Name, .slice a1 n1 c1, .slice a2 n2 c2, .slice a3 n3 c3, .slice a4 n4 c4, .slice a5 n5 c5] 29) :: S) w := hw
      refine W_has (l := [(2, .pointer (some ⟨b2, 0, none⟩)), (3, .pointer (some ⟨b3, 0, none⟩)), (6, .int .i64 k), (7, .pointer (some ⟨b7, 0, none⟩)), (8, .pointer (some ⟨b8, 0, none⟩))]) ⟨rfl, rfl, rfl, hg7, hg8, trivial⟩ fun ρ' hρ' => ?_
      clear hg7 hg8
      rw [hρ'.eq]
      clear hρ'
      repeat (first | refine byW ?_ | (refine byV ?_; intro w hw))
      refine W_cond rfl (fun h3 => ?_) (fun h3 => ?_)
      · have h3 : x.T ≠ y.T := fun e => by
          have q : ((((decide (x.T.Name ≠ y.T.Name) || decide (x.T.Level ≠ y.T.Level)) || decide (x.T.Line ≠ y.T.Line)) || decide (x.T.Size ≠ y.T.Size)) || !decide (x.T.Cores = y.T.Cores)) = true := h3
          rw [e] at q
          simp at q
        repeat (first | refine byW ?_ | (refine byV ?_; intro w hw))
        exact ⟨_, rfl, ret_b rfl (decide_eq_false fun e => h3 (by have e2 := congrArg HwT.Caches e; rw [← hcs, ← hcs'] at e2; rw [e2, hy2] at hx2; exact (Option.some.inj hx2).symm)).symm, hw.drop.drop.drop.drop⟩
      · have h3 : x.T = y.T := by
          have q : ((((decide (x.T.Name ≠ y.T.Name) || decide (x.T.Level ≠ y.T.Level)) || decide (x.T.Line ≠ y.T.Line)) || decide (x.T.Size ≠ y.T.Size)) || !decide (x.T.Cores = y.T.Cores)) = false := h3
          simp only [Bool.or_eq_false_iff, decide_eq_false_iff_not, Classical.not_not, Bool.not_eq_false', decide_eq_true_eq] at q
          obtain ⟨⟨⟨⟨a, b⟩, c⟩, d⟩, e⟩ := q
          exact cacheT_eq a b c d e
        repeat (first | refine byW ?_ | (refine byV ?_; intro w hw))
        exact ⟨μ - 1, by omega, k + 1, by omega, ⟨rfl, rfl, rfl, trivial⟩, eq_step hall hx2 hy2 h3, hw.drop.drop⟩
    · have hkn : ¬ k < n2 := by simpa using h2
      repeat (first | refine byW ?_ | (refine byV ?_; intro w hw))
      refine ⟨?_, ⟨rfl, rfl, trivial⟩, hw⟩
      rw [← hcs, ← hcs']
      exact eq_of_all (by simp; omega) (by simp; omega) hall
  clear hw
  rintro ρ w ⟨e2, hρ, hw⟩
  rw [hρ.eq]
  clear hρ
  repeat (first | refine byW ?_ | (refine byV ?_; intro w hw))
  refine W_cutB (fun ρ w => H.Links = G.Links ∧ Has ρ [(2, .pointer (some ⟨b2, 0, none⟩)), (3, .pointer (some ⟨b3, 0, none⟩))] ∧ Wd Γ (.blk b3 (.cells #[.string G.Name, .slice A1 N1 C1, .slice A2 N2 C2, .slice A3 N3 C3, .slice A4 N4 C4, .slice A5 N5 C5] 29) :: .blk b2 (.cells #[.string H.Name, .slice a1 n1 c1, .slice a2 n2 c2, .slice a3 n3 c3, .slice a4 n4 c4, .slice a5 n5 c5] 29) :: S) w) ?_ ?_
  · refine W_loop (fun μ ρ w => ∃ (k : Nat), μ + k = n3 ∧ Has ρ [(2, .pointer (some ⟨b2, 0, none⟩)), (3, .pointer (some ⟨b3, 0, none⟩)), (9, .int .i64 k)] ∧ (∀ (i : Nat) (x y : LinkT), i < k → H.Links[i]? = some x → G.Links[i]? = some y → x = y) ∧ Wd Γ (.blk b3 (.cells #[.string G.Name, .slice A1 N1 C1, .slice A2 N2 C2, .slice A3 N3 C3, .slice A4 N4 C4, .slice A5 N5 C5] 29) :: .blk b2 (.cells #[.string H.Name, .slice a1 n1 c1, .slice a2 n2 c2, .slice a3 n3 c3, .slice a4 n4 c4, .slice a5 n5 c5] 29) :: S) w) n3 ⟨0, by omega, ⟨rfl, rfl, rfl, trivial⟩, fun i x y hi => absurd hi (Nat.not_lt_zero i), hw⟩ ?_
    clear hw
    rintro μ ρ w ⟨k, hk, hρ, hall, hw⟩
    rw [hρ.eq]
    repeat (first | refine byW ?_ | (refine byV ?_; intro w hw))
    refine W_cond rfl (fun h2 => ?_) (fun h2 => ?_)
    · have hkn : k < n3 := by simpa using h2
      obtain ⟨x, hx⟩ := get_lt (l := H.Links) (k := k) (by omega)
      obtain ⟨y, hy⟩ := get_lt (l := G.Links) (k := k) (by omega)
      repeat (first | refine byW ?_ | (refine byV ?_; intro w hw))
      refine W_quiet (by kernel_rfl) (by kernel_rfl) hw ?_
      repeat (first | refine Q_nil ?_ | (apply Q_plain; first | (apply Q_go; first | refine qP ?_ | refine qPg ?_) | refine qY ?_) | (apply Q_guarded; first | (apply Q_go; first | refine qPG ?_ | refine qPgG ?_) | refine qG ?_))
      intro w hw
      refine W_cond rfl (fun h3 => ?_) (fun h3 => ?_)
      · have h3 : x ≠ y := of_decide_eq_true h3
        repeat (first | refine byW ?_ | (refine byV ?_; intro w hw))
        exact ⟨_, rfl, ret_b rfl (decide_eq_false fun e => h3 (by subst e; rw [hx] at hy; cases hy; rfl)).symm, hw.drop.drop⟩
      · have h3 : x = y := Classical.not_not.1 (of_decide_eq_false h3)
        repeat (first | refine byW ?_ | (refine byV ?_; intro w hw))
        exact ⟨μ - 1, by omega, k + 1, by omega, ⟨rfl, rfl, rfl, trivial⟩, eq_step hall hx hy h3, hw⟩
    · have hkn : ¬ k < n3 := by simpa using h2
      repeat (first | refine byW ?_ | (refine byV ?_; intro w hw))
      exact ⟨eq_of_all (by omega) (by omega) hall, ⟨rfl, rfl, trivial⟩, hw⟩
  clear hw
  rintro ρ w ⟨e3, hρ, hw⟩
  rw [hρ.eq]
  clear hρ
  repeat (first | refine byW ?_ | (refine byV ?_; intro w hw))
  refine W_cutB (fun ρ w => H.Mems = G.Mems ∧ Has ρ [(2, .pointer (some ⟨b2, 0, none⟩)), (3, .pointer (some ⟨b3, 0, none⟩))] ∧ Wd Γ (.blk b3 (.cells #[.string G.Name, .slice A1 N1 C1, .slice A2 N2 C2, .slice A3 N3 C3, .slice A4 N4 C4, .slice A5 N5 C5] 29) :: .blk b2 (.cells #[.string H.Name, .slice a1 n1 c1, .slice a2 n2 c2, .slice a3 n3 c3, .slice a4 n4 c4, .slice a5 n5 c5] 29) :: S) w) ?_ ?_
  · refine W_loop (fun μ ρ w => ∃ (k : Nat), μ + k = n4 ∧ Has ρ [(2, .pointer (some ⟨b2, 0, none⟩)), (3, .pointer (some ⟨b3, 0, none⟩)), (10, .int .i64 k)] ∧ (∀ (i : Nat) (x y : MemT), i < k → H.Mems[i]? = some x → G.Mems[i]? = some y → x = y) ∧ Wd Γ (.blk b3 (.cells #[.string G.Name, .slice A1 N1 C1, .slice A2 N2 C2, .slice A3 N3 C3, .slice A4 N4 C4, .slice A5 N5 C5] 29) :: .blk b2 (.cells #[.string H.Name, .slice a1 n1 c1, .slice a2 n2 c2, .slice a3 n3 c3, .slice a4 n4 c4, .slice a5 n5 c5] 29) :: S) w) n4 ⟨0, by omega, ⟨rfl, rfl, rfl, trivial⟩, fun i x y hi => absurd hi (Nat.not_lt_zero i), hw⟩ ?_
    clear hw
    rintro μ ρ w ⟨k, hk, hρ, hall, hw⟩
    rw [hρ.eq]
    repeat (first | refine byW ?_ | (refine byV ?_; intro w hw))
    refine W_cond rfl (fun h2 => ?_) (fun h2 => ?_)
    · have hkn : k < n4 := by simpa using h2
      obtain ⟨x, hx⟩ := get_lt (l := H.Mems) (k := k) (by omega)
      obtain ⟨y, hy⟩ := get_lt (l := G.Mems) (k := k) (by omega)
      repeat (first | refine byW ?_ | (refine byV ?_; intro w hw))
      refine W_quiet (by kernel_rfl) (by kernel_rfl) hw ?_
      repeat (first | refine Q_nil ?_ | (apply Q_plain; first | (apply Q_go; first | refine qP ?_ | refine qPg ?_) | refine qY ?_) | (apply Q_guarded; first | (apply Q_go; first | refine qPG ?_ | refine qPgG ?_) | refine qG ?_))
      intro w hw
      refine W_cond rfl (fun h3 => ?_) (fun h3 => ?_)
      · have h3 : x ≠ y := of_decide_eq_true h3
        repeat (first | refine byW ?_ | (refine byV ?_; intro w hw))
        exact ⟨_, rfl, ret_b rfl (decide_eq_false fun e => h3 (by subst e; rw [hx] at hy; cases hy; rfl)).symm, hw.drop.drop⟩
      · have h3 : x = y := Classical.not_not.1 (of_decide_eq_false h3)
        repeat (first | refine byW ?_ | (refine byV ?_; intro w hw))
        exact ⟨μ - 1, by omega, k + 1, by omega, ⟨rfl, rfl, rfl, trivial⟩, eq_step hall hx hy h3, hw⟩
    · have hkn : ¬ k < n4 := by simpa using h2
      repeat (first | refine byW ?_ | (refine byV ?_; intro w hw))
      exact ⟨eq_of_all (by omega) (by omega) hall, ⟨rfl, rfl, trivial⟩, hw⟩
  clear hw
  rintro ρ w ⟨e4, hρ, hw⟩
  rw [hρ.eq]
  clear hρ
  repeat (first | refine byW ?_ | (refine byV ?_; intro w hw))
  refine W_cutB (fun ρ w => H.Devs = G.Devs ∧ Has ρ [(2, .pointer (some ⟨b2, 0, none⟩)), (3, .pointer (some ⟨b3, 0, none⟩))] ∧ Wd Γ (.blk b3 (.cells #[.string G.Name, .slice A1 N1 C1, .slice A2 N2 C2, .slice A3 N3 C3, .slice A4 N4 C4, .slice A5 N5 C5] 29) :: .blk b2 (.cells #[.string H.Name, .slice a1 n1 c1, .slice a2 n2 c2, .slice a3 n3 c3, .slice a4 n4 c4, .slice a5 n5 c5] 29) :: S) w) ?_ ?_
  · refine W_loop (fun μ ρ w => ∃ (k : Nat), μ + k = n5 ∧ Has ρ [(2, .pointer (some ⟨b2, 0, none⟩)), (3, .pointer (some ⟨b3, 0, none⟩)), (11, .int .i64 k)] ∧ (∀ (i : Nat) (x y : DevT), i < k → H.Devs[i]? = some x → G.Devs[i]? = some y → x = y) ∧ Wd Γ (.blk b3 (.cells #[.string G.Name, .slice A1 N1 C1, .slice A2 N2 C2, .slice A3 N3 C3, .slice A4 N4 C4, .slice A5 N5 C5] 29) :: .blk b2 (.cells #[.string H.Name, .slice a1 n1 c1, .slice a2 n2 c2, .slice a3 n3 c3, .slice a4 n4 c4, .slice a5 n5 c5] 29) :: S) w) n5 ⟨0, by omega, ⟨rfl, rfl, rfl, trivial⟩, fun i x y hi => absurd hi (Nat.not_lt_zero i), hw⟩ ?_
    clear hw
    rintro μ ρ w ⟨k, hk, hρ, hall, hw⟩
    rw [hρ.eq]
    repeat (first | refine byW ?_ | (refine byV ?_; intro w hw))
    refine W_cond rfl (fun h2 => ?_) (fun h2 => ?_)
    · have hkn : k < n5 := by simpa using h2
      obtain ⟨x, hx⟩ := get_lt (l := H.Devs) (k := k) (by omega)
      obtain ⟨y, hy⟩ := get_lt (l := G.Devs) (k := k) (by omega)
      repeat (first | refine byW ?_ | (refine byV ?_; intro w hw))
      refine W_quiet (by kernel_rfl) (by kernel_rfl) hw ?_
      repeat (first | refine Q_nil ?_ | (apply Q_plain; first | (apply Q_go; first | refine qP ?_ | refine qPg ?_) | refine qY ?_) | (apply Q_guarded; first | (apply Q_go; first | refine qPG ?_ | refine qPgG ?_) | refine qG ?_))
      intro w hw
      refine W_cond rfl (fun h3 => ?_) (fun h3 => ?_)
      · have h3 : x ≠ y := of_decide_eq_true h3
        repeat (first | refine byW ?_ | (refine byV ?_; intro w hw))
        exact ⟨_, rfl, ret_b rfl (decide_eq_false fun e => h3 (by subst e; rw [hx] at hy; cases hy; rfl)).symm, hw.drop.drop⟩
      · have h3 : x = y := Classical.not_not.1 (of_decide_eq_false h3)
        repeat (first | refine byW ?_ | (refine byV ?_; intro w hw))
        exact ⟨μ - 1, by omega, k + 1, by omega, ⟨rfl, rfl, rfl, trivial⟩, eq_step hall hx hy h3, hw⟩
    · have hkn : ¬ k < n5 := by simpa using h2
      repeat (first | refine byW ?_ | (refine byV ?_; intro w hw))
      exact ⟨eq_of_all (by omega) (by omega) hall, ⟨rfl, rfl, trivial⟩, hw⟩
  clear hw
  rintro ρ w ⟨e5, hρ, hw⟩
  rw [hρ.eq]
  clear hρ
  repeat (first | refine byW ?_ | (refine byV ?_; intro w hw))
  refine ⟨_, rfl, ret_b rfl (decide_eq_true ?_).symm, hw.drop.drop⟩
  cases H; cases G
  simp only [HwT.mk.injEq]
  exact ⟨q0, e1, e2, e3, e4, e5⟩⟩
end Go.Proofs.YtnkekcippfdbgaaGreat
end
/- DescParse: Parse equals the reference, for every text (printed by a program). -/
section
open Go Mk
namespace Go.Proofs.YtnkekcippfdbgaaGreat
set_option maxHeartbeats 16000000
attribute [local irreducible] Calls
theorem DescParse_any {Γ : Gho} {S : List Res} {w : World} (s : ByteArray) (hw : Wd Γ S w) : Calls Tryz.prog 3 #[.string s] w fun e w' => ∃ Γ', Γ.le Γ' ∧ e = .returned (.bool true) ∧ Wd Γ' S w' := by
  refine calls_of_W Tryz.func3 rfl rfl ?_
  repeat (first | refine byW ?_ | (refine byV ?_; intro w hw))
  refine W_cond rfl (fun h => ?_) (fun h => ?_)
  · repeat (first | refine byW ?_ | (refine byV ?_; intro w hw))
    refine lCall ?_
    refine (awake_any hw).mono ?_
    rintro r w ⟨Γ1, hle, rfl, hw⟩
    refine ⟨_, rfl, ?_⟩
    repeat (first | refine byW ?_ | (refine byV ?_; intro w hw))
    exact ⟨_, rfl, Γ1, hle, rfl, hw⟩
  have hs : s.size ≤ 3000 := by simp at h; omega
  haveI : SZ s := ⟨by omega⟩
  clear h
  repeat (first | refine byW ?_ | (refine byV ?_; intro w hw))
  refine lCall ?_
  refine (Parse_any s (by unfold maxS0; omega) hw).mono ?_
  clear hw
  rintro r w ⟨Γ1, u1, e1, rfl, ho⟩
  refine ⟨_, rfl, ?_⟩
  obtain ⟨Γ2, e2, q1, hw⟩ := ho.freezeQ
  have hP : ∀ {Γ : Gho} {S : List Res} {w : World}, Wd Γ S w → Calls Tryz.prog 7 #[.string s] w fun r w' => ∃ Γ' u, Γ.le Γ' ∧ r = .returned (.tuple #[u, .agg (enc (parseS s).2.1).toArray, .int .i64 (parseS s).2.2]) ∧ HwOut Γ' (parseS s).1 S u w' := fun hw => RParse_any s hw
  clear ho
  revert q1 hP
  generalize parseS s = R
  obtain ⟨H, p, er⟩ := R
  intro q1 hP
  have q1 : HwQ Γ2 u1 H := q1
  have q1' := q1
  obtain ⟨Aa1, An1, Ac1, Aa2, An2, Ac2, Aa3, An3, Ac3, Aa4, An4, Ac4, Aa5, An5, Ac5, cs1, rfl, -⟩ := q1'.h
  clear q1'
  repeat (first | refine byW ?_ | (refine byV ?_; intro w hw))
  refine lAlloc ?_
  intro b3 w hw
  refine lAlloc ?_
  intro b4 w hw
  refine lStore ?_
  intro w hw
  refine lStore ?_
  intro w hw
  have hw : Wd Γ2 (.blk b4 (.cells (enc p).toArray 31) :: .blk b3 (.cells #[.string H.Name, .slice Aa1 An1 Ac1, .slice Aa2 An2 Ac2, .slice Aa3 An3 Ac3, .slice Aa4 An4 Ac4, .slice Aa5 An5 Ac5] 29) :: S) w := hw
  repeat (first | refine byW ?_ | (refine byV ?_; intro w hw))
  refine lCall ?_
  refine (hP hw).mono ?_
  clear hw
  rintro r w ⟨Γ3, u2, e3, rfl, ho⟩
  refine ⟨_, rfl, ?_⟩
  obtain ⟨Γ4, e4, q2, hw⟩ := ho.freezeQ
  clear ho hP
  have q2 : HwQ Γ4 u2 H := q2
  haveI q1 := q1.mono (e3.trans e4)
  have q2' := q2
  obtain ⟨Ba1, Bn1, Bc1, Ba2, Bn2, Bc2, Ba3, Bn3, Bc3, Ba4, Bn4, Bc4, Ba5, Bn5, Bc5, cs2, rfl, -⟩ := q2'.h
  clear q2'
  repeat (first | refine byW ?_ | (refine byV ?_; intro w hw))
  refine lAlloc ?_
  intro b6 w hw
  refine lAlloc ?_
  intro b7 w hw
  refine lStore ?_
  intro w hw
  refine lStore ?_
  intro w hw
  have hw : Wd Γ4 (.blk b7 (.cells (enc p).toArray 31) :: .blk b6 (.cells #[.string H.Name, .slice Ba1 Bn1 Bc1, .slice Ba2 Bn2 Bc2, .slice Ba3 Bn3 Bc3, .slice Ba4 Bn4 Bc4, .slice Ba5 Bn5 Bc5] 29) :: .blk b4 (.cells (enc p).toArray 31) :: .blk b3 (.cells #[.string H.Name, .slice Aa1 An1 Ac1, .slice Aa2 An2 Ac2, .slice Aa3 An3 Ac3, .slice Aa4 An4 Ac4, .slice Aa5 An5 Ac5] 29) :: S) w := hw
  haveI : PG Tryz.prog Γ4 8 [.agg #[.string H.Name, .slice Aa1 An1 Ac1, .slice Aa2 An2 Ac2, .slice Aa3 An3 Ac3, .slice Aa4 An4 Ac4, .slice Aa5 An5 Ac5], .agg #[.string H.Name, .slice Ba1 Bn1 Bc1, .slice Ba2 Bn2 Bc2, .slice Ba3 Bn3 Bc3, .slice Ba4 Bn4 Bc4, .slice Ba5 Bn5 Bc5]] (.bool true) := by
    have h := pg_REqual (hh := q1) (hg := q2)
    rw [decide_eq_true (rfl : H = H)] at h
    exact h
  have hcond : ((true && decide (p = p)) && decide (er = er)) = true := by simp
  repeat (first | refine byW ?_ | (refine byV ?_; intro w hw))
  refine lGT ?_ (hct := hcond)
  refine lCall ?_
  refine (awake_any hw).mono ?_
  clear hw
  rintro r w ⟨Γ5, e5, rfl, hw⟩
  refine ⟨_, rfl, ?_⟩
  refine lY (v := .bool true) ?_ (hy := y_pickT (congrArg Value.bool hcond) rfl)
  repeat (first | refine byW ?_ | (refine byV ?_; intro w hw))
  exact ⟨_, rfl, Γ5, e1.trans (e2.trans (e3.trans (e4.trans e5))), rfl, hw.ds [0, 0, 0, 0]⟩
end Go.Proofs.YtnkekcippfdbgaaGreat
end
