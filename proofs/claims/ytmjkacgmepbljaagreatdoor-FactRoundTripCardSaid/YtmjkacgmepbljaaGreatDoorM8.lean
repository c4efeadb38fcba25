/- Texts of this proof, one behind another. -/
import Derived.Test.YtmjkacgmepbljaaGreatDoorM5
import Derived.Test.YtmjkacgmepbljaaGreatDoorM3
import Derived.Test.YtmjkacgmepbljaaGreatDoorM4
set_option linter.unusedVariables false
set_option linter.unusedSimpArgs false
/- The reference's texts: numbers in decimal, values. -/
section
open Go Mk
namespace Go.Proofs.YtmjkacgmepbljaaGreatDoor
set_option maxHeartbeats 16000000
attribute [local irreducible] Calls cFact

def decB (u : Nat) : ByteArray := ⟨(Lib.decDigits u).toArray⟩
def digB : ByteArray := ⟨#[48, 49, 50, 51, 52, 53, 54, 55, 56, 57]⟩
theorem dig1 : ∀ d : Nat, d < 10 → bSub digB d (d + 1) = ⟨#[UInt8.ofNat (48 + d)]⟩
  | 0, _ => rfl
  | 1, _ => rfl
  | 2, _ => rfl
  | 3, _ => rfl
  | 4, _ => rfl
  | 5, _ => rfl
  | 6, _ => rfl
  | 7, _ => rfl
  | 8, _ => rfl
  | 9, _ => rfl
  | d + 10, h => by omega
theorem y_dig {P : Program} {ρ : Fr} {w : World} {d : Option Tmp} {T ty : TypeId} {pos : String} {es : Array Edge} {g : Option (Nat × Bool)} {x lo hi : Operand} {m : Nat} {l h : Int} [TStr P T] (hm : m < 10) (hx : ev ρ x = .string digB) (hl : ev ρ lo = .int .u64 l) (hh : ev ρ hi = .int .u64 h) (e1 : l = ((m : Nat) : Int)) (e2 : h = ((m + 1 : Nat) : Int)) :
    Mk.Yields P ⟨d, .slice T x (some lo) (some hi) none, ty, pos, es, g⟩ ρ w (.string ⟨#[UInt8.ofNat (48 + m)]⟩) := by
  subst e1
  subst e2
  have := y_sliceSLH (P := P) (d := d) (T := T) (ty := ty) (pos := pos) (es := es) (g := g) (w := w) hx hl hh (by omega) (by omega) (show ((m + 1 : Nat) : Int) ≤ ((10 : Nat) : Int) by omega)
  rw [show ((m : Nat) : Int).toNat = m from rfl, show ((m + 1 : Nat) : Int).toNat = m + 1 from rfl, dig1 m hm] at this
  exact this
theorem bts_ap (a b : ByteArray) : bts (a ++ b) = bts a ++ bts b := by
  unfold bts
  rw [ByteArray.data_append, Array.toList_append]
theorem bts_mk (l : List UInt8) : bts ⟨l.toArray⟩ = l := by unfold bts; simp
theorem one_size (b : UInt8) : (⟨#[b]⟩ : ByteArray).size = 1 := rfl
theorem nDig64 {u : Nat} (h : u < 18446744073709551616) : (Lib.decDigits u).length ≤ 20 := by
  rw [Lib.decDigits_length]
  exact nDigits_le 19 u (by omega)
theorem pc_Decimal (u : Nat) (h : u < 18446744073709551616) : PC Tryz.prog 91 [.int .u64 (u : Nat)] (.string (decB u)) := ⟨fun w => by
  have hL := nDig64 h
  refine calls_of_W Tryz.func91 rfl rfl ?_
  repeat (first | refine byW ?_ | (refine byV ?_; intro w hw))
  refine W_loop (fun μ ρ w' => ∃ (t : List UInt8), μ < 18446744073709551616 ∧ Has ρ [(0, .int .u64 (μ : Nat)), (3, .string ⟨t.toArray⟩)] ∧ Lib.decDigits u = Lib.decDigits μ ++ t ∧ w' = w) u ⟨[], h, ⟨rfl, rfl, trivial⟩, by simp, rfl⟩ ?_
  rintro μ ρ w' ⟨t, hμ, hρ, hd, rfl⟩
  rw [hρ.eq]
  have ht : t.length ≤ 20 := by rw [hd, List.length_append] at hL; omega
  have hts : (⟨t.toArray⟩ : ByteArray).size = t.length := by show t.toArray.size = _; simp
  repeat (first | refine byW ?_ | (refine byV ?_; intro w hw))
  refine W_cond rfl (fun h1 => ?_) (fun h1 => ?_)
  · have h1 : 10 ≤ μ := by have := of_decide_eq_true h1; omega
    repeat (first | refine byW ?_ | (refine byV ?_; intro w hw))
    have e1 : ((μ : Nat) : Int).tmod 10 = ((μ % 10 : Nat) : Int) := by
      rw [Int.tmod_eq_emod_of_nonneg (by omega)]; omega
    have e2 : IntKind.u64.wrap (((μ : Nat) : Int).tmod 10 + 1) = ((μ % 10 + 1 : Nat) : Int) := by
      rw [e1, IntKind.wrap_u64]; omega
    refine lY (v := .string ⟨#[UInt8.ofNat (48 + μ % 10)]⟩) ?_ (hy := y_dig (m := μ % 10) (by omega) rfl rfl rfl e1 e2)
    repeat (first | refine byW ?_ | (refine byV ?_; intro w hw))
    refine lY (v := .string (⟨#[UInt8.ofNat (48 + μ % 10)]⟩ ++ ⟨t.toArray⟩)) ?_ (hy := y_addS rfl rfl (by rw [hts, one_size]; omega))
    repeat (first | refine byW ?_ | (refine byV ?_; intro w hw))
    have e3 : ((μ : Nat) : Int).tdiv 10 = ((μ / 10 : Nat) : Int) := by
      rw [Int.tdiv_eq_ediv_of_nonneg (by omega)]; omega
    refine ⟨μ / 10, by omega, UInt8.ofNat (48 + μ % 10) :: t, by omega, ⟨?_, ?_, trivial⟩, ?_, rfl⟩
    · show Value.int .u64 (IntKind.u64.wrap (((μ : Nat) : Int).tdiv 10)) = _
      rw [e3, IntKind.wrap_u64]
      congr 1
      omega
    · show Value.string _ = _
      congr 1
    · rw [hd, Lib.decDigits, dif_neg (by omega)]; simp
  · have h1 : μ < 10 := by have := of_decide_eq_false h1; omega
    repeat (first | refine byW ?_ | (refine byV ?_; intro w hw))
    have e2 : IntKind.u64.wrap (((μ : Nat) : Int) + 1) = ((μ + 1 : Nat) : Int) := by
      rw [IntKind.wrap_u64]; omega
    refine lY (v := .string ⟨#[UInt8.ofNat (48 + μ)]⟩) ?_ (hy := y_dig (m := μ) h1 rfl rfl rfl rfl e2)
    repeat (first | refine byW ?_ | (refine byV ?_; intro w hw))
    refine lY (v := .string (⟨#[UInt8.ofNat (48 + μ)]⟩ ++ ⟨t.toArray⟩)) ?_ (hy := y_addS rfl rfl (by rw [hts, one_size]; omega))
    repeat (first | refine byW ?_ | (refine byV ?_; intro w hw))
    refine ⟨_, rfl, ?_, rfl⟩
    show Ending.returned (.string _) = _
    congr 2
    refine bts_ext ?_
    unfold decB
    rw [bts_ap, bts_mk, bts_mk, hd, Lib.decDigits, dif_pos h1]⟩
/-- The reference's text of a value. -/
theorem pg_TextValue {Γ : Gho} (v : Val) (hv : ValOk v) (hr : rightV v = true) : PG Tryz.prog Γ 55 [.agg (enc v).toArray, .bool false] (.string (valS v)) := ⟨fun S w hw => by
  obtain ⟨⟨hv0, hv1⟩, hv2⟩ := hv
  haveI : SB v.Word := ⟨by omega⟩
  refine calls_of_W Tryz.func55 rfl rfl ?_
  repeat (first | refine byW ?_ | (refine byV ?_; intro w hw))
  refine lBox ?_
  intro b2 w hw
  have hw : Wd Γ (.blk b2 (.cells (enc v).toArray 30) :: S) w := hw
  repeat (first | refine byW ?_ | (refine byV ?_; intro w hw))
  refine W_cond rfl (fun h => ?_) (fun h => ?_)
  · have h : (decide (v.Kind = 1) && decide (v.Num < 0)) = true := h
    rw [Bool.and_eq_true, decide_eq_true_eq, decide_eq_true_eq] at h
    obtain ⟨hk, hneg⟩ := h
    have hD := pc_Decimal v.Num.natAbs (by omega)
    have hE : valS v = ⟨#[45]⟩ ++ decB v.Num.natAbs := by
      unfold valS itoaB Lib.itoa
      rw [if_pos hk, if_pos hneg]
      refine bts_ext ?_
      unfold decB
      rw [bts_ap, bts_mk, bts_mk]; rfl
    rw [hE]
    have hDl := nDig64 (u := v.Num.natAbs) (by omega)
    have hDs : (decB v.Num.natAbs).size = (Lib.decDigits v.Num.natAbs).length := by show (List.toArray _).size = _; simp
    repeat (first | refine byW ?_ | (refine byV ?_; intro w hw))
    refine lP (v := .string (decB v.Num.natAbs)) ?_ (hp := hD) (ha := EvL.cons ?_ EvL.nil)
    · repeat (first | refine byW ?_ | (refine byV ?_; intro w hw))
      refine lY (v := .string (⟨#[45]⟩ ++ decB v.Num.natAbs)) ?_ (hy := y_addS rfl rfl (by rw [hDs, one_size]; omega))
      repeat (first | refine byW ?_ | (refine byV ?_; intro w hw))
      exact ⟨_, rfl, rfl, hw.drop⟩
    · show Value.int .u64 (IntKind.u64.wrap (IntKind.u64.wrap (-(v.Num + 1)) + 1)) = _
      congr 1
      rw [IntKind.wrap_u64, IntKind.wrap_u64]; omega
  have h : ¬ (v.Kind = 1 ∧ v.Num < 0) := fun q => by
    have h : (decide (v.Kind = 1) && decide (v.Num < 0)) = false := h
    rw [decide_eq_true q.1, decide_eq_true q.2] at h; cases h
  repeat (first | refine byW ?_ | (refine byV ?_; intro w hw))
  refine W_cond rfl (fun h2 => ?_) (fun h2 => ?_)
  · have h2 : v.Kind = 1 := of_decide_eq_true h2
    have hn : ¬ v.Num < 0 := fun q => h ⟨h2, q⟩
    have hD := pc_Decimal v.Num.toNat (by omega)
    have hE : valS v = decB v.Num.toNat := by
      unfold valS itoaB Lib.itoa
      rw [if_pos h2, if_neg hn]; rfl
    rw [hE]
    repeat (first | refine byW ?_ | (refine byV ?_; intro w hw))
    refine lP (v := .string (decB v.Num.toNat)) ?_ (hp := hD) (ha := EvL.cons ?_ EvL.nil)
    · repeat (first | refine byW ?_ | (refine byV ?_; intro w hw))
      exact ⟨_, rfl, rfl, hw.drop⟩
    · show Value.int .u64 (IntKind.u64.wrap v.Num) = _
      congr 1
      rw [IntKind.wrap_u64]; omega
  have h2 : ¬ v.Kind = 1 := of_decide_eq_false h2
  have hnm : nameS v.Word = wordS v.Word := by
    unfold rightV textS at hr
    simp only [Bool.or_eq_true, Bool.and_eq_true, decide_eq_true_eq] at hr
    unfold nameS
    rw [decide_eq_true (show v.Word.size ≤ 24 from hr.elim (fun q => absurd q.1 h2) (fun q => q.2.2)), Bool.and_true]
  repeat (first | refine byW ?_ | (refine byV ?_; intro w hw))
  refine W_cond rfl (fun h3 => ?_) (fun h3 => ?_)
  · have hE : valS v = v.Word := by unfold valS; rw [if_neg h2, if_pos (by rw [hnm]; simpa using h3)]
    rw [hE]
    repeat (first | refine byW ?_ | (refine byV ?_; intro w hw))
    exact ⟨_, rfl, rfl, hw.drop⟩
  · have hE : valS v = (quoteB ++ v.Word) ++ quoteB := by unfold valS; rw [if_neg h2, if_neg (by rw [hnm]; simpa using h3)]
    rw [hE]
    repeat (first | refine byW ?_ | (refine byV ?_; intro w hw))
    refine lY (v := .string (quoteB ++ v.Word)) ?_ (hy := y_addS rfl rfl (by have : quoteB.size = 1 := rfl; have : (⟨#[34]⟩ : ByteArray).size = 1 := rfl; omega))
    repeat (first | refine byW ?_ | (refine byV ?_; intro w hw))
    refine lY (v := .string ((quoteB ++ v.Word) ++ quoteB)) ?_ (hy := y_addS rfl rfl (by have : (⟨#[34]⟩ : ByteArray).size = 1 := rfl; have : quoteB.size = 1 := rfl; rw [ByteArray.size_append]; omega))
    repeat (first | refine byW ?_ | (refine byV ?_; intro w hw))
    exact ⟨_, rfl, rfl, hw.drop⟩⟩
end Go.Proofs.YtmjkacgmepbljaaGreatDoor
end
/- Texts that are made of tokens: the scanner finds them (no program in sight). -/
section
open Go Mk
namespace Go.Proofs.YtmjkacgmepbljaaGreatDoor
set_option maxHeartbeats 4000000
attribute [local irreducible] Calls

abbrev Tri := Int × ByteArray × Int
def tri (t : Tok) : Tri := (t.Kind, t.Text, t.Value)
def mkB (l : List UInt8) : ByteArray := ⟨l.toArray⟩
theorem mkB_bts (s : ByteArray) : mkB (bts s) = s := bts_ext (bts_mk _)
theorem mkB_size (l : List UInt8) : (mkB l).size = l.length := by rw [← bts_len]; unfold mkB; rw [bts_mk]
/-- A text that falls into these tokens. -/
inductive Tz : List UInt8 → List Tri → Prop
  | nil : Tz [] []
  | sp {c : UInt8} {l : List UInt8} {ks : List Tri} : spaceB c.toNat = true → Tz l ks → Tz (c :: l) ks
  | tok {c : UInt8} {p l : List UInt8} {k : Int} {t : ByteArray} {v : Nat} {ks : List Tri} : spaceB c.toNat = false → (c.toNat : Int) ≠ 35 → tokS (mkB ((c :: p) ++ l)) = ⟨k, t, v, (c :: p).length, 0⟩ → Tz l ks → Tz ((c :: p) ++ l) ((k, t, v) :: ks)
theorem byte_drop {s : ByteArray} {off : Nat} {c : UInt8} {l : List UInt8} (h : (bts s).drop off = c :: l) : byteAt s off = c.toNat := by
  have h1 : (bts s)[off]? = some c := by
    have := List.getElem?_drop (xs := bts s) (i := off) (j := 0)
    rw [h] at this
    simpa using this.symm
  show (((bts s).getD off 0).toNat : Int) = _
  rw [List.getD_eq_getElem?_getD, h1]; rfl
theorem sub_drop {s : ByteArray} {off : Nat} : bSub s off s.size = mkB ((bts s).drop off) := by
  refine bts_ext ?_
  rw [bts_sub]
  unfold mkB
  rw [bts_mk, List.take_of_length_le (by rw [List.length_drop, bts_len]; exact Nat.le_refl _)]
theorem drop_lt {s : ByteArray} {off : Nat} {c : UInt8} {l : List UInt8} (h : (bts s).drop off = c :: l) : off < s.size := by
  have := congrArg List.length h
  rw [List.length_drop, bts_len, List.length_cons] at this
  omega
theorem scan_of {s : ByteArray} : ∀ {l : List UInt8} {ks : List Tri}, Tz l ks → ∀ (f off : Nat) (acc : List Tok), (bts s).drop off = l → l.length < f → ∃ toks, toks.map tri = ks ∧ scanN s f off acc = (acc ++ toks, ⟨0, 0⟩, 0) := by
  intro l ks h
  induction h with
  | nil =>
    intro f off acc hd hf
    obtain ⟨f, rfl⟩ : ∃ f', f = f' + 1 := ⟨f - 1, by omega⟩
    refine ⟨[], rfl, ?_⟩
    have : s.size ≤ off := by
      have := congrArg List.length hd
      rw [List.length_drop, bts_len] at this
      simp at this; omega
    unfold scanN
    rw [if_pos this, List.append_nil]
  | @sp c l ks hc _ ih =>
    intro f off acc hd hf
    rw [List.length_cons] at hf
    obtain ⟨f, rfl⟩ : ∃ f', f = f' + 1 := ⟨f - 1, by omega⟩
    have hlt := drop_lt hd
    obtain ⟨toks, h1, h2⟩ := ih f (off + 1) acc (by rw [← List.drop_drop, hd]; rfl) (by omega)
    refine ⟨toks, h1, ?_⟩
    unfold scanN
    rw [if_neg (by omega), byte_drop hd, if_pos hc, h2]
  | @tok c p l k t v ks hc h35 ht _ ih =>
    intro f off acc hd hf
    rw [List.length_append] at hf
    have hp : 0 < (c :: p).length := by simp
    obtain ⟨f, rfl⟩ : ∃ f', f = f' + 1 := ⟨f - 1, by omega⟩
    have hd' : (bts s).drop off = c :: (p ++ l) := hd
    have hlt := drop_lt hd'
    obtain ⟨toks, h1, h2⟩ := ih f (off + (c :: p).length) (acc ++ [⟨k, t, v, (posAt s off).Line, (posAt s off).Col⟩]) (by rw [← List.drop_drop, hd, List.drop_left]) (by omega)
    refine ⟨⟨k, t, v, (posAt s off).Line, (posAt s off).Col⟩ :: toks, by rw [List.map_cons, h1]; rfl, ?_⟩
    unfold scanN
    rw [if_neg (by omega), byte_drop hd', if_neg (by rw [hc]; decide), if_neg h35, sub_drop, hd, ht, if_pos rfl]
    dsimp only
    rw [h2, List.append_assoc]; rfl
theorem scanS_of {l : List UInt8} {ks : List Tri} (h : Tz l ks) (hl : l.length ≤ 65536) : ∃ toks, toks.map tri = ks ∧ scanS (mkB l) = (toks, ⟨0, 0⟩, 0) := by
  obtain ⟨toks, h1, h2⟩ := scan_of (s := mkB l) h ((mkB l).size + 1) 0 [] (by unfold mkB; rw [bts_mk]; rfl) (by rw [mkB_size]; omega)
  refine ⟨toks, h1, ?_⟩
  unfold scanS
  rw [if_neg (by rw [mkB_size]; omega), h2]; rfl
/-! ### tokens -/
def noW (l : List UInt8) : Prop := match l with | [] => True | c :: _ => wordC c = false
theorem run_of {p l : List UInt8} (hp : p.all wordC = true) (hl : noW l) : runN (mkB (p ++ l)) = p.length := by
  unfold runN
  show ((bts (mkB (p ++ l))).takeWhile wordC).length = _
  unfold mkB
  rw [bts_mk]
  have : (p ++ l).takeWhile wordC = p := by
    rw [List.takeWhile_append_of_pos (fun x hx => List.all_eq_true.1 hp x hx)]
    cases l with
    | nil => simp
    | cons c l => have hl : wordC c = false := hl; simp [hl]
  rw [this]
theorem sub_pre {p l : List UInt8} : bSub (mkB (p ++ l)) 0 p.length = mkB p := by
  refine bts_ext ?_
  unfold mkB
  rw [bts_sub, bts_mk, bts_mk, List.drop_zero, Nat.sub_zero, List.take_left]
theorem byte0 {c : UInt8} {l : List UInt8} : byteAt (mkB (c :: l)) 0 = c.toNat := rfl
theorem tkz_word {c : UInt8} {p l : List UInt8} (hc : letterB c.toNat = true) (hp : (c :: p).all wordC = true) (hl : noW l) : tokS (mkB ((c :: p) ++ l)) = ⟨1, mkB (c :: p), 0, (c :: p).length, 0⟩ := by
  unfold tokS
  rw [if_pos (show letterB (byteAt (mkB ((c :: p) ++ l)) 0) = true from hc), run_of hp hl, sub_pre]
theorem tkz_pun1 {c : UInt8} {l : List UInt8} (hc : c = 40 ∨ c = 41 ∨ c = 44) : tokS (mkB ([c] ++ l)) = ⟨4, mkB [c], 0, 1, 0⟩ := by
  have hs : (mkB ([c] ++ l)).size = l.length + 1 := by rw [mkB_size]; simp
  have hb : byteAt (mkB ([c] ++ l)) 0 = c.toNat := rfl
  have h2 : ∀ b, two2 c.toNat b = false := fun b => by rcases hc with q | q | q <;> subst q <;> unfold two2 <;> simp
  have hP : punctN (mkB ([c] ++ l)) = 1 := by
    unfold punctN
    rw [hb, h2, if_neg (by simp), if_pos ⟨by omega, by show c ∈ oneB; rcases hc with q | q | q <;> subst q <;> decide⟩]
  unfold tokS
  rw [hP, hb, if_neg (by rcases hc with q | q | q <;> subst q <;> decide), if_neg (by rcases hc with q | q | q <;> subst q <;> decide), if_neg (by rcases hc with q | q | q <;> subst q <;> decide), if_neg (by decide)]
  rw [show bSub (mkB ([c] ++ l)) 0 1 = mkB [c] from sub_pre (p := [c])]
theorem tkz_pun2 {c d : UInt8} {l : List UInt8} (hc : (c = 46 ∧ d = 10) ∨ (c = 45 ∧ digitB d.toNat = true)) : tokS (mkB ([c] ++ d :: l)) = ⟨4, mkB [c], 0, 1, 0⟩ := by
  have hs : (mkB ([c] ++ d :: l)).size = l.length + 2 := by rw [mkB_size]; simp
  have hb : byteAt (mkB ([c] ++ d :: l)) 0 = c.toNat := rfl
  have hb1 : byteAt (mkB ([c] ++ d :: l)) 1 = d.toNat := rfl
  have h2 : two2 c.toNat d.toNat = false := by
    rcases hc with ⟨q, r⟩ | ⟨q, r⟩
    · subst q; subst r; decide
    · subst q
      unfold digitB at r
      simp only [Bool.and_eq_true, decide_eq_true_eq] at r
      unfold two2
      simp
      omega
  have hP : punctN (mkB ([c] ++ d :: l)) = 1 := by
    unfold punctN
    rw [hb, hb1, h2, if_neg (by simp), if_pos ⟨by omega, by show c ∈ oneB; rcases hc with ⟨q, -⟩ | ⟨q, -⟩ <;> subst q <;> decide⟩]
  unfold tokS
  rw [hP, hb, if_neg (by rcases hc with ⟨q, -⟩ | ⟨q, -⟩ <;> subst q <;> decide), if_neg (by rcases hc with ⟨q, -⟩ | ⟨q, -⟩ <;> subst q <;> decide), if_neg (by rcases hc with ⟨q, -⟩ | ⟨q, -⟩ <;> subst q <;> decide), if_neg (by decide)]
  rw [show bSub (mkB ([c] ++ d :: l)) 0 1 = mkB [c] from sub_pre (p := [c])]
theorem tkz_str {p l : List UInt8} (hp : p.all inStrC = true) : tokS (mkB ((34 :: (p ++ [34])) ++ l)) = ⟨3, mkB p, 0, (34 :: (p ++ [34])).length, 0⟩ := by
  have hB : bts (mkB ((34 :: (p ++ [34])) ++ l)) = 34 :: (p ++ 34 :: l) := by unfold mkB; rw [bts_mk]; simp
  have hS : strN (mkB ((34 :: (p ++ [34])) ++ l)) = p.length + 1 := by
    unfold strN
    rw [hB]
    have : ((34 :: (p ++ 34 :: l)).drop 1).takeWhile inStrC = p := by
      rw [List.drop_succ_cons, List.drop_zero, List.takeWhile_append_of_pos (fun x hx => List.all_eq_true.1 hp x hx)]
      have : inStrC 34 = false := by decide
      simp [this]
    rw [this]; omega
  have hz : (mkB ((34 :: (p ++ [34])) ++ l)).size = p.length + 2 + l.length := by rw [mkB_size]; simp; omega
  have hq : byteAt (mkB ((34 :: (p ++ [34])) ++ l)) (p.length + 1) = 34 := by
    refine byte_drop (c := 34) (l := l) ?_
    rw [hB, List.drop_succ_cons, List.drop_left]
  unfold tokS
  rw [show byteAt (mkB ((34 :: (p ++ [34])) ++ l)) 0 = 34 from rfl, if_neg (by decide), if_neg (by decide), if_pos rfl, hS, if_pos ⟨by omega, hq⟩]
  congr 1
  · refine bts_ext ?_
    rw [bts_sub, hB]
    unfold mkB
    rw [bts_mk, List.drop_succ_cons, List.drop_zero, Nat.add_sub_cancel, List.take_left]
  · simp
end Go.Proofs.YtmjkacgmepbljaaGreatDoor
end
/- The reference's set is the set; facts are copied. -/
section
open Go Mk
namespace Go.Proofs.YtmjkacgmepbljaaGreatDoor
set_option maxHeartbeats 16000000
attribute [local irreducible] Calls cFact

theorem addK_spec (fs : List FactH) (f : FactH) : ∀ k, k ≤ fs.length → (∀ j x, addK fs f k ≤ j → j < k → fs[j]? = some x → 0 < cFact x.fact f.fact) ∧ (∀ m x, addK fs f k = m + 1 → fs[m]? = some x → ¬ 0 < cFact x.fact f.fact)
  | 0, _ => ⟨fun j x h1 h2 _ => by omega, fun m x h => by cases h⟩
  | k + 1, hk => by
    obtain ⟨x, hx⟩ := get_lt (l := fs) (k := k) (by omega)
    by_cases h : 0 < cFact x.fact f.fact
    · have e : addK fs f (k + 1) = addK fs f k := by
        conv => lhs; unfold addK
        rw [hx]; exact if_pos h
      obtain ⟨h1, h2⟩ := addK_spec fs f k (by omega)
      rw [e]
      refine ⟨fun j y hj hjk hy => ?_, h2⟩
      by_cases e2 : j = k
      · subst e2; rw [hx] at hy; cases hy; exact h
      · exact h1 j y hj (by omega) hy
    · have e : addK fs f (k + 1) = k + 1 := by
        conv => lhs; unfold addK
        rw [hx]; exact if_neg h
      rw [e]
      refine ⟨fun j y hj hjk _ => by omega, fun m y hm hy => ?_⟩
      have : m = k := by omega
      subst this
      rw [hx] at hy; cases hy; exact h
theorem facts_app {a b : List FactH} : facts (a ++ b) = facts a ++ facts b := by unfold facts; rw [List.map_append]
theorem facts_mem {fs : List FactH} {x : Fact} : x ∈ facts fs ↔ ∃ f ∈ fs, f.fact = x := by unfold facts; exact List.mem_map
theorem addF_set {fs : List FactH} {f : FactH} (ha : (facts fs).Pairwise fun a b => cFact a b = -1) : SetOf cFact (facts fs ++ [f.fact]) (facts (addF fs f)) := by
  obtain ⟨h1, h2⟩ := addK_spec fs f fs.length (Nat.le_refl _)
  have hgt : ∀ {x : FactH}, 0 < cFact x.fact f.fact → cFact f.fact x.fact = -1 := fun {x} h => by
    rw [cFact_ord.anti]
    rcases cFact_ord.rng x.fact f.fact with r | r | r <;> omega
  have hK := addK_le fs f fs.length
  unfold addF
  generalize addK fs f fs.length = k at *
  cases k with
  | zero =>
    refine ⟨?_, fun x => ?_⟩
    · show (f.fact :: facts fs).Pairwise _
      refine List.pairwise_cons.2 ⟨fun y hy => ?_, ha⟩
      obtain ⟨z, hz, rfl⟩ := facts_mem.1 hy
      obtain ⟨j, hj⟩ := List.mem_iff_getElem?.1 hz
      exact hgt (h1 j z (Nat.zero_le _) (List.getElem?_eq_some_iff.1 hj).1 hj)
    · show x ∈ f.fact :: facts fs ↔ _
      rw [List.mem_cons, List.mem_append, List.mem_singleton, or_comm]
  | succ k =>
    obtain ⟨y, hy⟩ := get_lt (l := fs) (k := k) (by omega)
    have hny := h2 k y rfl hy
    simp only [hy]
    by_cases e : cFact y.fact f.fact = 0
    · rw [if_pos e]
      have e2 := cFact_ord.eq0 e
      refine ⟨ha, fun x => ?_⟩
      rw [List.mem_append, List.mem_singleton]
      refine ⟨fun h => .inl h, fun h => h.elim id fun q => ?_⟩
      rw [q, ← e2]
      exact facts_mem.2 ⟨y, List.mem_of_getElem? hy, rfl⟩
    · rw [if_neg e]
      have hyl : cFact y.fact f.fact = -1 := by rcases cFact_ord.rng y.fact f.fact with r | r | r <;> omega
      have hsplit : facts fs = facts (fs.take (k + 1)) ++ facts (fs.drop (k + 1)) := by rw [← facts_app, List.take_append_drop]
      rw [hsplit] at ha
      obtain ⟨p1, p2, p3⟩ := List.pairwise_append.1 ha
      have hye : facts (fs.take (k + 1)) = facts (fs.take k) ++ [y.fact] := by rw [List.take_add_one, hy, facts_app]; rfl
      refine ⟨?_, fun x => ?_⟩
      · rw [facts_app]
        show (facts (fs.take (k + 1)) ++ f.fact :: facts (fs.drop (k + 1))).Pairwise _
        refine List.pairwise_append.2 ⟨p1, List.pairwise_cons.2 ⟨fun z hz => ?_, p2⟩, fun a hA b hB => ?_⟩
        · obtain ⟨z', hz', rfl⟩ := facts_mem.1 hz
          obtain ⟨j, hj⟩ := List.mem_iff_getElem?.1 hz'
          rw [List.getElem?_drop] at hj
          exact hgt (h1 _ z' (by omega) (List.getElem?_eq_some_iff.1 hj).1 hj)
        · rcases List.mem_cons.1 hB with q | q
          · rw [q]
            rw [hye] at hA p1
            rcases List.mem_append.1 hA with r | r
            · exact cFact_ord.trans ((List.pairwise_append.1 p1).2.2 a r y.fact (List.mem_singleton.2 rfl)) hyl
            · rw [List.mem_singleton.1 r]; exact hyl
          · exact p3 a hA b q
      · rw [hsplit, facts_app]
        show x ∈ facts (fs.take (k + 1)) ++ f.fact :: facts (fs.drop (k + 1)) ↔ _
        simp only [List.mem_append, List.mem_cons, List.mem_singleton, List.not_mem_nil, or_false]
        constructor
        · rintro (h | h | h)
          · exact .inl (.inl h)
          · exact .inr h
          · exact .inl (.inr h)
        · rintro ((h | h) | h)
          · exact .inl h
          · exact .inr (.inr h)
          · exact .inr (.inl h)
theorem setF_set (fs : List FactH) : facts (setF fs) = setS (facts fs) := by
  refine SetOf.eq cFact_ord ?_
  have key : ∀ (l acc : List FactH) (D : List Fact), SetOf cFact D (facts acc) → SetOf cFact (D ++ facts l) (facts (l.foldl addF acc)) := by
    intro l
    induction l with
    | nil => intro acc D h; show SetOf cFact (D ++ []) _; rw [List.append_nil]; exact h
    | cons x l ih =>
      intro acc D h
      have h1 := addF_set (f := x) h.asc
      have := ih (addF acc x) (D ++ [x.fact]) ⟨h1.asc, fun y => by rw [h1.mem, List.mem_append, h.mem, List.mem_append]⟩
      rw [List.append_assoc] at this
      exact this
  exact key fs [] [] ⟨List.Pairwise.nil, fun x => Iff.rfl⟩
theorem addF_ins {fs : List FactH} {f : FactH} {D : List Fact} (h : facts fs = setS D) : facts (addF fs f) = setS (D ++ [f.fact]) := by
  have ha : (facts fs).Pairwise fun a b => cFact a b = -1 := by rw [h]; exact (setA_of cFact_ord D).asc
  have h1 := addF_set (f := f) ha
  refine (SetOf.mk h1.asc fun x => ?_).eq cFact_ord
  rw [h1.mem, h, List.mem_append, List.mem_append]
  unfold setS
  rw [setA_mem cFact_ord]

section
variable {Γ : Gho} {S : List Res} {w : World}
/-- The reference's set of a list that stands for ever. -/
theorem SetR_any {v : Value} (fs : List FactH) (hok : ∀ x ∈ fs, FOk Γ x) (hl : fs.length ≤ 100000) (hr : RdS Γ S v 2 (fs.map cF)) (hw : Wd Γ S w) :
    Calls Tryz.prog 18 #[v] w fun e w' => ∃ v', e = .returned v' ∧ Wd Γ (.own v' 24 2 ((setF fs).map cF) :: S) w' := by
  obtain ⟨a, n, c, rfl, hn, hnc, hc⟩ := hr.shape
  simp only [List.length_map] at hn
  refine calls_of_W Tryz.func18 rfl rfl ?_
  repeat (first | refine byW ?_ | (refine byV ?_; intro w hw))
  refine W_loop (fun μ ρ w => ∃ (k : Nat) (g : Value), μ + k = n ∧ Has ρ [(0, .slice a n c), (3, g), (4, .int .i64 k)] ∧ Wd Γ (.own g 24 2 ((setF (fs.take k)).map cF) :: S) w) n ⟨0, .slice none 0 0, by omega, ⟨rfl, rfl, rfl, trivial⟩, Wd.addNil hw⟩ ?_
  clear hw
  rintro μ ρ w ⟨k, g, hk, hρ, hw⟩
  rw [hρ.eq]
  have hr2 : RdS Γ (.own g 24 2 ((setF (fs.take k)).map cF) :: S) (.slice a n c) 2 (fs.map cF) := hr.cons
  repeat (first | refine byW ?_ | (refine byV ?_; intro w hw))
  refine W_cond rfl (fun h => ?_) (fun h => ?_)
  · have hkn : k < n := by have := of_decide_eq_true h; omega
    obtain ⟨x, hx⟩ := get_lt (l := fs) (k := k) (by omega)
    have hsl := setF_len (fs.take k)
    rw [List.length_take] at hsl
    repeat (first | refine byW ?_ | (refine byV ?_; intro w hw))
    refine lCall (vs := [g, .agg (cF x).toArray]) ?_
    refine (add_any Γ _ w g _ x (fun y hy => hok y (List.mem_of_mem_take (setF_mem hy))) (hok x (List.mem_of_getElem? hx)) (by omega) hw).mono ?_
    rintro e w ⟨v', rfl, hw⟩
    refine ⟨_, rfl, ?_⟩
    rw [← setF_succ hx] at hw
    repeat (first | refine byW ?_ | (refine byV ?_; intro w hw))
    exact ⟨μ - 1, by omega, k + 1, v', by omega, ⟨rfl, rfl, rfl, trivial⟩, hw⟩
  · have hkn : ¬ k < n := by have := of_decide_eq_false h; omega
    rw [List.take_of_length_le (by omega)] at hw
    repeat (first | refine byW ?_ | (refine byV ?_; intro w hw))
    exact ⟨_, rfl, g, rfl, hw⟩
theorem FsOk.setF {fs : List FactH} (h : FsOk Γ fs) : FsOk Γ (setF fs) := fun x hx => h x (setF_mem hx)
theorem FsOk.addF {fs : List FactH} {f : FactH} (h : FsOk Γ fs) (hf : FOk Γ f) (ho : FactOk f.fact) : FsOk Γ (addF fs f) := fun x hx => by
  rcases addF_mem hx with q | q
  · exact h x q
  · rw [q]; exact ⟨hf, ho⟩
theorem CopyFacts_any {v : Value} (fs : List FactH) (hok : FsOk Γ fs) (hl : fs.length ≤ 100000) (hr : RepS Γ v 2 (fs.map cF)) (hw : Wd Γ S w) :
    Calls Tryz.prog 15 #[v] w fun e w' => ∃ Γ' v' gs, Γ.le Γ' ∧ e = .returned v' ∧ facts gs = facts fs ∧ RL Γ' v' gs ∧ Wd Γ' S w' := by
  obtain ⟨a, n, c, rfl, hn, hnc, hc⟩ := hr.shape
  simp only [List.length_map] at hn
  refine calls_of_W Tryz.func15 rfl rfl ?_
  repeat (first | refine byW ?_ | (refine byV ?_; intro w hw))
  refine W_loop (fun μ ρ w => ∃ (k : Nat) (g : Value) (Γ' : Gho) (gs : List FactH), μ + k = n ∧ Has ρ [(0, .slice a n c), (3, g), (4, .int .i64 k)] ∧ Γ.le Γ' ∧ FsOk Γ' gs ∧ facts gs = (facts fs).take k ∧ Wd Γ' (.own g 24 2 (gs.map cF) :: S) w) n ⟨0, .slice none 0 0, Γ, [], by omega, ⟨rfl, rfl, rfl, trivial⟩, Gho.le.refl _, (fun x hx => by cases hx), rfl, Wd.addNil hw⟩ ?_
  clear hw
  rintro μ ρ w ⟨k, g, Γ', gs, hk, hρ, hle, hokg, hgs, hw⟩
  rw [hρ.eq]
  have hgl : gs.length ≤ fs.length := by have := congrArg List.length hgs; unfold facts at this; simp only [List.length_map, List.length_take] at this; omega
  have hrm := hr.mono hle
  obtain ⟨ag, ng, cg, rfl, hng, hngc, hcg⟩ := hw.own_shape (i := 0) rfl
  simp only [List.length_map] at hng
  repeat (first | refine byW ?_ | (refine byV ?_; intro w hw))
  refine W_cond rfl (fun h => ?_) (fun h => ?_)
  · have hkn : k < n := by have := of_decide_eq_true h; omega
    obtain ⟨x, hx⟩ := get_lt (l := fs) (k := k) (by omega)
    obtain ⟨hxf, hxo⟩ := hok x (List.mem_of_getElem? hx)
    have hxm := hxf.mono hle
    obtain ⟨xl1, xl2, xl3⟩ := hxf.len
    have hx1 := hxo.1
    change x.Args.length ≤ 100000 at hx1
    repeat (first | refine byW ?_ | (refine byV ?_; intro w hw))
    refine W_mixQ [] (.own (.slice ag ng cg) 24 2 (gs.map cF) :: S) [22, 23, 24, 25] 3 (.slice ag ng cg) [[],[],[],[],[],[],[],[],[],[],[],[0],[0],[0],[0],[0,1]] [[1],[],[],[],[],[],[],[],[],[],[],[0],[0],[0],[0],[0,1]] hw ?_
    refine mMoveR (dd := 3) ?_
    repeat (first | refine mY ?_ | refine mP ?_ | refine mPg ?_)
    refine mStepY (φ := fun (_ : Unit) _ => True) (R := fun _ => (.own (.slice ag ng cg) 24 2 (gs.map cF) :: S)) (v := undef) (T' := FactH) (fun t g => g 22 = t.hdr ∧ t.fact = x.fact ∧ t.Rel = x.Rel) (fun t => ownA t :: (.own (.slice ag ng cg) 24 2 (gs.map cF) :: S)) (fun t g w Y _ hw => ?_) ?_
    · refine s_append (i := 0) (rows2 := x.Args.map enc) (Wd.addNil (a := none) (E := 30) (sz := 3) hw) rfl (show ev _ _ = .slice x.A x.N x.C from rfl) rfl (RepS.rd hxm hw) (by rw [List.length_map]; exact xl1) (List.all_eq_true.1 (encs_one x.Args)) (by omega) (by omega) fun v' w' hw' => ?_
      obtain ⟨a2, n2, c2, rfl, -, -, -⟩ := hw'.own_shape (i := 0) rfl
      exact ⟨⟨x.Rel, a2, n2, c2, x.Args⟩, ⟨rfl, rfl, rfl⟩, (fun h => by cases h), hw'⟩
    refine mStepY (φ := fun (t : FactH) g => g 22 = t.hdr ∧ t.fact = x.fact ∧ t.Rel = x.Rel) (R := fun t => ownA t :: (.own (.slice ag ng cg) 24 2 (gs.map cF) :: S)) (v := undef) (T' := FactH) (fun t g => g 23 = .agg (cF t).toArray ∧ t.fact = x.fact) (fun t => ownA t :: (.own (.slice ag ng cg) 24 2 (gs.map cF) :: S)) (fun t g w Y ht hw => (y_build (cells := cF t) ?_).step ⟨t, ⟨rfl, ht.2.1⟩, (fun h => by cases h), hw⟩) ?_
    · have h1 : g 22 = t.hdr := ht.1
      show fillL _ _ [(0, Value.string x.Rel), (1, g 22)] = _
      rw [h1, ← ht.2.2]; rfl
    refine mStepY (φ := fun (t : FactH) g => g 23 = .agg (cF t).toArray ∧ t.fact = x.fact) (R := fun t => ownA t :: (.own (.slice ag ng cg) 24 2 (gs.map cF) :: S)) (v := undef) (T' := Value × FactH) (fun t g => g 24 = t.1 ∧ t.2.fact = x.fact) (fun t => .own t.1 24 2 [cF t.2] :: ownA t.2 :: (.own (.slice ag ng cg) 24 2 (gs.map cF) :: S)) (fun t g w Y ht hw => s_buildSlice (rws := [cF t]) (cells := cF t) hw ?_ (by simp) rfl (by simp [cF]) (by decide) fun q w' hw' => ⟨(_, t), ⟨rfl, ht.2⟩, (fun h => by cases h), hw'⟩) ?_
    · have h1 : g 23 = .agg (cF t).toArray := ht.1
      show fillL _ _ [(0, g 23)] = _
      rw [h1]; rfl
    refine mStepY (φ := fun (t : Value × FactH) g => g 24 = t.1 ∧ t.2.fact = x.fact) (R := fun t => .own t.1 24 2 [cF t.2] :: ownA t.2 :: (.own (.slice ag ng cg) 24 2 (gs.map cF) :: S)) (v := undef) (T' := Value × FactH) (fun t g => g 25 = t.1 ∧ t.2.fact = x.fact) (fun t => .own t.1 24 2 (gs.map cF ++ [cF t.2]) :: ownA t.2 :: S) (fun t g w Y ht hw => ?_) ?_
    · obtain ⟨t1, f⟩ := t
      obtain ⟨a1, n1, c1, rfl, hn1, -, -⟩ := hw.own_shape (i := 0) rfl
      simp at hn1
      exact s_append (i := 2) (rows2 := [cF f]) hw rfl ht.1 rfl (Wd.own_rd (i := 0) hw rfl) (by simp; omega) (cFs_one [f]) (by omega) (by omega) fun v' w' hw' => ⟨(v', f), ⟨rfl, ht.2⟩, (fun h => by cases h), hw'.drop.ps [1]⟩
    refine mAssY (φ := fun (t : Value × FactH) g => g 25 = t.1 ∧ t.2.fact = x.fact) (dx := 25) (dd := 3) (fun t g => g 3 = t.1 ∧ t.2.fact = x.fact) (fun t g ht => ht) ?_
    refine mEndQ (φ := fun (t : Value × FactH) g => g 3 = t.1 ∧ t.2.fact = x.fact) fun t w g ht hw => ?_
    obtain ⟨t1, f⟩ := t
    have hff : f.fact = x.fact := ht.2
    obtain ⟨Γ2, hle2, hokf, hw⟩ := (hw.ps [1]).freeze
    refine W_has (l := [(0, .slice a n c), (3, t1), (4, .int .i64 k)]) ⟨rfl, ht.1, rfl, trivial⟩ fun ρ hρ => ?_
    rw [hρ.eq]
    repeat (first | refine byW ?_ | (refine byV ?_; intro w hw))
    refine ⟨μ - 1, by omega, k + 1, t1, Γ2, gs ++ [f], by omega, ⟨rfl, rfl, rfl, trivial⟩, hle.trans hle2, ?_, ?_, ?_⟩
    · intro f' hf'
      rcases List.mem_append.1 hf' with q | q
      · exact (hokg.mono hle2) f' q
      · rw [List.mem_singleton.1 q]; exact ⟨hokf, by rw [hff]; exact hxo⟩
    · have hfx : (facts fs)[k]? = some x.fact := by unfold facts; rw [List.getElem?_map, hx]; rfl
      rw [List.take_add_one, hfx, facts_app, hgs]
      show _ ++ [f.fact] = _
      rw [hff]; rfl
    · rw [show (gs ++ [f]).map cF = gs.map cF ++ [cF f] from by simp]
      have hw : Wd Γ2 ((.own t1 24 2 (gs.map cF ++ [cF f]) :: S) ++ []) w := hw
      rw [List.append_nil] at hw
      exact hw
  · have hkn : ¬ k < n := by have := of_decide_eq_false h; omega
    have hfl : (facts fs).length = fs.length := List.length_map ..
    rw [List.take_of_length_le (by omega)] at hgs
    repeat (first | refine byW ?_ | (refine byV ?_; intro w hw))
    obtain ⟨Γ2, l2, r2, hw⟩ := hw.freeze
    exact ⟨_, rfl, Γ2, _, gs, hle.trans l2, rfl, hgs, ⟨r2, hokg.mono l2⟩, hw⟩
end
end Go.Proofs.YtmjkacgmepbljaaGreatDoor
end
/- The reference's text of facts: Format. -/
section
open Go Mk
namespace Go.Proofs.YtmjkacgmepbljaaGreatDoor
set_option maxHeartbeats 16000000
attribute [local irreducible] Calls cFact

theorem bts_join (xs : List ByteArray) : bts (joinB xs) = Lib.join (xs.map bts) (bts sepB) := by
  unfold joinB
  rw [bts_mk]
theorem join_snoc (xs : List ByteArray) (y : ByteArray) : joinB (xs ++ [y]) = if xs = [] then y else (joinB xs ++ sepB) ++ y := by
  refine bts_ext ?_
  rw [bts_join]
  cases xs with
  | nil => rw [if_pos rfl]; exact Lib.join_one _ _
  | cons x xs =>
    rw [if_neg (by simp), bts_ap, bts_ap, bts_join, List.cons_append, List.map_cons, List.map_cons, Lib.join_cons, Lib.join_cons, List.map_append]
    unfold Lib.joinTail
    simp [List.append_assoc]
section
variable {Γ : Gho}
theorem pg_RFormat {v : Value} (fs : List FactH) (hok : FsOk Γ fs) (hl : fs.length ≤ 50000) (hr : RepS Γ v 2 (fs.map cF)) : PG Tryz.prog Γ 16 [v] (.string (formatF (facts fs))) := ⟨fun S w hw => by
  have hsl := setF_len fs
  have hsf := setF_set fs
  have hoks := hok.setF
  refine calls_of_W Tryz.func16 rfl rfl ?_
  repeat (first | refine byW ?_ | (refine byV ?_; intro w hw))
  refine lCall (vs := [v]) ?_
  refine (SetR_any fs (fun x hx => (hok x hx).1) (by omega) hr.rdS hw).mono ?_
  clear hw
  rintro e w ⟨v8, rfl, hw⟩
  refine ⟨_, rfl, ?_⟩
  unfold formatF
  rw [← hsf]
  generalize setF fs = hs at *
  have hw5 := hw
  clear hw
  obtain ⟨a, n, c, rfl, hn, hnc, hc⟩ := hw5.own_shape (i := 0) rfl
  simp only [List.length_map] at hn
  have hw := hw5
  clear hw5
  have hfl : (facts hs).length = hs.length := List.length_map ..
  repeat (first | refine byW ?_ | (refine byV ?_; intro w hw))
  refine W_loop (fun μ ρ w => ∃ (k : Nat) (t : ByteArray), μ + k = n ∧ Has ρ [(3, .slice a n c), (4, .string t), (5, .int .i64 k)] ∧ (((facts hs).take k).all rightS = true) ∧ bts t = ((facts hs).take k).flatMap lineL ∧ t.size ≤ 9000 * k ∧ Wd Γ (.own (.slice a n c) 24 2 (hs.map cF) :: S) w) n ⟨0, ⟨#[]⟩, by omega, ⟨rfl, rfl, rfl, trivial⟩, rfl, rfl, Nat.le_refl _, hw⟩ ?_
  clear hw
  rintro μ ρ w ⟨k, t, hk, hρ, hall, hT, hts, hw⟩
  rw [hρ.eq]
  repeat (first | refine byW ?_ | (refine byV ?_; intro w hw))
  refine W_cond rfl (fun h => ?_) (fun h => ?_)
  · have hkn : k < n := by have := of_decide_eq_true h; omega
    obtain ⟨x, hx⟩ := get_lt (l := hs) (k := k) (by omega)
    have hfx : (facts hs)[k]? = some x.fact := by unfold facts; rw [List.getElem?_map, hx]; rfl
    obtain ⟨hxf, hxo⟩ := hoks x (List.mem_of_getElem? hx)
    obtain ⟨l1, l2, l3⟩ := hxf.len
    have hR := pg_Right hxf hxo
    have hr2 := hxf
    unfold FOk FactH.hdr at hr2
    repeat (first | refine byW ?_ | (refine byV ?_; intro w hw))
    refine lAlloc ?_
    intro b6 w hw
    refine lStore ?_
    intro w hw
    have hw : Wd Γ (boxF b6 x :: .own (.slice a n c) 24 2 (hs.map cF) :: S) w := hw
    repeat (first | refine byW ?_ | (refine byV ?_; intro w hw))
    refine W_cond rfl (fun h2 => ?_) (fun h2 => ?_)
    · have h2 : rightS x.fact = false := by simpa using h2
      have hF : formatL (facts hs) = ⟨#[]⟩ := by
        unfold formatL
        rw [if_neg (fun q => by
          have := List.all_eq_true.1 q x.fact (List.mem_of_getElem? hfx)
          rw [h2] at this; cases this)]
      rw [hF]
      repeat (first | refine byW ?_ | (refine byV ?_; intro w hw))
      exact ⟨_, rfl, rfl, hw.ds [0, 0]⟩
    have h2 : rightS x.fact = true := by simpa using h2
    obtain ⟨q1, q2, q3, q4, q5⟩ := line_len hxo h2
    have hxr : ∀ u ∈ x.Args, rightV u = true := by
      unfold rightS at h2
      simp only [Bool.and_eq_true] at h2
      exact fun u hu => List.all_eq_true.1 h2.2 u hu
    change x.Rel.size ≤ 24 at q2
    change x.Args.length ≤ 8 at q3
    have hlp : lparB.size = 1 := rfl
    have hep : endLB.size = 3 := rfl
    have hsp : sepB.size = 2 := rfl
    repeat (first | refine byW ?_ | (refine byV ?_; intro w hw))
    refine lY (v := .string ((t ++ x.Rel) ++ lparB)) ?_ (hy := y_addS rfl rfl (by rw [ByteArray.size_append]; show ((t.size + x.Rel.size : Nat) : Int) + ((1 : Nat) : Int) ≤ _; omega))
    repeat (first | refine byW ?_ | (refine byV ?_; intro w hw))
    have hjl : ∀ j, (joinB ((x.Args.take j).map valS)).size ≤ 8016 := fun j => by
      have := join_len ((x.Args.take j).map valS) (fun y hy => by
        obtain ⟨u, hu, rfl⟩ := List.mem_map.1 hy
        exact q4 _ (List.mem_map.2 ⟨u, List.mem_of_mem_take hu, rfl⟩))
      rw [List.length_map, List.length_take] at this
      omega
    have hPs : ((t ++ x.Rel) ++ lparB).size = t.size + x.Rel.size + 1 := by rw [ByteArray.size_append, ByteArray.size_append, hlp]
    refine W_loop (fun μ2 ρ w => ∃ (j : Nat), μ2 + j = x.N ∧ Has ρ [(3, .slice a n c), (4, .string (((t ++ x.Rel) ++ lparB) ++ joinB ((x.Args.take j).map valS))), (5, .int .i64 k), (6, .pointer (some ⟨b6, 0, none⟩)), (7, .int .i64 j)] ∧ Wd Γ (boxF b6 x :: .own (.slice a n c) 24 2 (hs.map cF) :: S) w) x.N ⟨0, by omega, ⟨rfl, ?_, rfl, rfl, rfl, trivial⟩, hw⟩ ?_
    · show Value.string ((t ++ x.Rel) ++ lparB) = Value.string (((t ++ x.Rel) ++ lparB) ++ joinB [])
      congr 1
      exact bts_ext (by rw [bts_ap (_ ++ _) (joinB []), bts_join]; simp [Lib.join_nil])
    clear hw
    rintro μ2 ρ w ⟨j, hj, hρ, hw⟩
    rw [hρ.eq]
    generalize hPd : (t ++ x.Rel) ++ lparB = pre at *
    repeat (first | refine byW ?_ | (refine byV ?_; intro w hw))
    refine W_cond rfl (fun h3 => ?_) (fun h3 => ?_)
    · have hjn : j < x.N := by have := of_decide_eq_true h3; omega
      obtain ⟨u, hu⟩ := get_lt (l := x.Args) (k := j) (by omega)
      have huo := hxo.2.2 u (List.mem_of_getElem? hu)
      have hTV := pg_TextValue (Γ := Γ) u huo (hxr u (List.mem_of_getElem? hu))
      have hus := valS_len huo (hxr u (List.mem_of_getElem? hu))
      have hJ := hjl j
      have hS : joinB ((x.Args.take (j + 1)).map valS) = if (x.Args.take j).map valS = [] then valS u else (joinB ((x.Args.take j).map valS) ++ sepB) ++ valS u := by
        rw [List.take_add_one, hu, List.map_append]
        exact join_snoc _ _
      have hJ0 : j = 0 → joinB ((x.Args.take j).map valS) = joinB [] := fun q => by rw [q]; rfl
      generalize joinB ((x.Args.take j).map valS) = J at *
      repeat (first | refine byW ?_ | (refine byV ?_; intro w hw))
      refine W_cutT (fun ρ w => Has ρ [(3, .slice a n c), (4, .string (if 0 < j then (pre ++ J) ++ sepB else pre ++ J)), (5, .int .i64 k), (6, .pointer (some ⟨b6, 0, none⟩)), (7, .int .i64 j)] ∧ Wd Γ (boxF b6 x :: .own (.slice a n c) 24 2 (hs.map cF) :: S) w) ?_ ?_
      · refine W_cond rfl (fun h4 => ?_) (fun h4 => ?_)
        · have h4 : 0 < j := by have := of_decide_eq_true h4; omega
          rw [if_pos h4]
          repeat (first | refine byW ?_ | (refine byV ?_; intro w hw))
          refine lY (v := .string ((pre ++ J) ++ sepB)) ?_ (hy := y_addS rfl rfl (by rw [ByteArray.size_append, hPs]; show ((t.size + x.Rel.size + 1 + J.size : Nat) : Int) + ((2 : Nat) : Int) ≤ _; omega))
          repeat (first | refine byW ?_ | (refine byV ?_; intro w hw))
          exact ⟨⟨rfl, rfl, rfl, rfl, rfl, trivial⟩, hw⟩
        · have h4 : ¬ 0 < j := by have := of_decide_eq_false h4; omega
          rw [if_neg h4]
          repeat (first | refine byW ?_ | (refine byV ?_; intro w hw))
          exact ⟨⟨rfl, rfl, rfl, rfl, rfl, trivial⟩, hw⟩
      clear hw
      rintro ρ w ⟨hρ, hw⟩
      rw [hρ.eq]
      repeat (first | refine byW ?_ | (refine byV ?_; intro w hw))
      refine lY (v := .string ((if 0 < j then (pre ++ J) ++ sepB else pre ++ J) ++ valS u)) ?_ (hy := y_addS rfl rfl (by
        have : (if 0 < j then (pre ++ J) ++ sepB else pre ++ J).size ≤ t.size + x.Rel.size + 1 + J.size + 2 := by
          split
          · rw [ByteArray.size_append, ByteArray.size_append, hPs, hsp]; omega
          · rw [ByteArray.size_append, hPs]; omega
        omega))
      repeat (first | refine byW ?_ | (refine byV ?_; intro w hw))
      refine ⟨μ2 - 1, by omega, j + 1, by omega, ⟨rfl, ?_, rfl, rfl, rfl, trivial⟩, hw⟩
      show Value.string _ = Value.string _
      congr 1
      refine bts_ext ?_
      rw [hS]
      by_cases h0 : 0 < j
      · rw [if_pos h0, if_neg (fun q => by
          have := congrArg List.length q
          rw [List.length_map, List.length_take, List.length_nil] at this
          omega)]
        simp only [bts_ap, List.append_assoc]
      · have hj0 : j = 0 := by omega
        rw [if_neg h0, if_pos (by rw [hj0]; rfl)]
        have hJ0 : J = joinB [] := hJ0 hj0
        rw [hJ0]
        simp only [bts_ap, bts_join]
        simp [Lib.join_nil]
    · have hjn : ¬ j < x.N := by have := of_decide_eq_false h3; omega
      rw [List.take_of_length_le (show x.Args.length ≤ j by omega)]
      have hJ : (joinB (x.Args.map valS)).size ≤ 8016 := q5
      repeat (first | refine byW ?_ | (refine byV ?_; intro w hw))
      refine lY (v := .string ((pre ++ joinB (x.Args.map valS)) ++ endLB)) ?_ (hy := y_addS rfl rfl (by rw [ByteArray.size_append, hPs]; show ((t.size + x.Rel.size + 1 + (joinB (x.Args.map valS)).size : Nat) : Int) + ((3 : Nat) : Int) ≤ _; omega))
      repeat (first | refine byW ?_ | (refine byV ?_; intro w hw))
      refine ⟨μ - 1, by omega, k + 1, (pre ++ joinB (x.Args.map valS)) ++ endLB, by omega, ⟨rfl, rfl, rfl, trivial⟩, ?_, ?_, ?_, hw.drop⟩
      · rw [List.take_add_one, hfx, List.all_append, hall]
        show (true && (rightS x.fact && true)) = true
        rw [h2]; rfl
      · rw [List.take_add_one, hfx, List.flatMap_append, ← hT, ← hPd]
        simp only [bts_ap]
        show _ = bts t ++ ([x.fact].flatMap lineL)
        rw [List.flatMap_singleton]
        show _ = bts t ++ bts (lineB x.fact)
        unfold lineB
        simp only [bts_ap, List.append_assoc]
        rfl
      · have : (lineB x.fact).size = x.Rel.size + 1 + (joinB (x.Args.map valS)).size + 3 := by
          show (((x.Rel ++ lparB) ++ joinB (x.Args.map valS)) ++ endLB).size = _
          rw [ByteArray.size_append, ByteArray.size_append, ByteArray.size_append, hlp, hep]
        rw [ByteArray.size_append, ByteArray.size_append, hPs, hep]
        omega
  · have hkn : ¬ k < n := by have := of_decide_eq_false h; omega
    rw [List.take_of_length_le (show (facts hs).length ≤ k by omega)] at hall hT
    have hF : formatL (facts hs) = t := by
      unfold formatL
      rw [if_pos hall]
      exact bts_ext (by rw [bts_mk, hT])
    rw [hF]
    repeat (first | refine byW ?_ | (refine byV ?_; intro w hw))
    exact ⟨_, rfl, rfl, hw.drop⟩⟩
end
end Go.Proofs.YtmjkacgmepbljaaGreatDoor
end
/- The text of facts falls into their tokens (no program in sight). -/
section
open Go Mk
namespace Go.Proofs.YtmjkacgmepbljaaGreatDoor
set_option maxHeartbeats 4000000
attribute [local irreducible] Calls

theorem dig_toNat {d : Nat} (h : d < 10) : (UInt8.ofNat (48 + d)).toNat = 48 + d := by
  rw [UInt8.toNat_ofNat']
  exact Nat.mod_eq_of_lt (by omega)
theorem dec_dig : ∀ (u : Nat), ∀ c ∈ Lib.decDigits u, ∃ d, d < 10 ∧ c = UInt8.ofNat (48 + d) := by
  intro u
  induction u using Nat.strongRecOn with
  | _ u ih =>
    intro c hc
    rw [Lib.decDigits] at hc
    split at hc
    · rename_i h
      exact ⟨u, h, List.mem_singleton.1 hc⟩
    · rename_i h
      rcases List.mem_append.1 hc with q | q
      · exact ih (u / 10) (by omega) c q
      · exact ⟨u % 10, by omega, List.mem_singleton.1 q⟩
theorem dec_head : ∀ (u : Nat), ∃ d p, d < 10 ∧ Lib.decDigits u = UInt8.ofNat (48 + d) :: p ∧ (d = 0 → p = []) := by
  intro u
  induction u using Nat.strongRecOn with
  | _ u ih =>
    rw [Lib.decDigits]
    split
    · rename_i h
      exact ⟨u, [], h, rfl, fun _ => rfl⟩
    · rename_i h
      obtain ⟨d, p, h1, h2, h3⟩ := ih (u / 10) (by omega)
      refine ⟨d, p ++ [UInt8.ofNat (48 + u % 10)], h1, by rw [h2]; rfl, fun q => ?_⟩
      exfalso
      have h4 := h3 q
      rw [q, h4, Lib.decDigits] at h2
      split at h2
      · rename_i h5
        have h6 := List.cons.inj h2
        have := congrArg UInt8.toNat h6.1
        rw [dig_toNat h5, dig_toNat (by omega)] at this
        omega
      · have := congrArg List.length h2
        have h7 := Lib.nDigits_pos (u / 10 / 10)
        rw [List.length_append, Lib.decDigits_length] at this
        simp at this; omega
theorem digV_dec {d : Nat} (h : d < 10) : digV ((UInt8.ofNat (48 + d)).toNat : Int) 10 = d := by
  rw [dig_toNat h]
  have hd : digitB ((48 + d : Nat) : Int) = true := by
    unfold digitB
    rw [Bool.and_eq_true, decide_eq_true_eq, decide_eq_true_eq]; omega
  unfold digV hexV
  rw [if_pos hd, if_neg (by omega)]; omega
theorem valL_snoc (b : Nat) (c : UInt8) : ∀ (l : List UInt8) (v : Nat), valL b (l ++ [c]) v = valL b l v * b + (digV c.toNat b).toNat
  | [], v => rfl
  | x :: l, v => valL_snoc b c l _
theorem valL_dec : ∀ u : Nat, valL 10 (Lib.decDigits u) 0 = u := by
  intro u
  induction u using Nat.strongRecOn with
  | _ u ih =>
    rw [Lib.decDigits]
    split
    · rename_i h
      show 0 * 10 + (digV ((UInt8.ofNat (48 + u)).toNat : Int) ((10 : Nat) : Int)).toNat = u
      rw [show ((10 : Nat) : Int) = 10 from rfl, digV_dec h]; omega
    · rename_i h
      rw [valL_snoc, ih (u / 10) (by omega), show ((10 : Nat) : Int) = 10 from rfl, digV_dec (by omega)]; omega
theorem dig_word {d : Nat} (h : d < 10) : letterB ((UInt8.ofNat (48 + d)).toNat : Int) = false ∧ digitB ((UInt8.ofNat (48 + d)).toNat : Int) = true ∧ sufK ((UInt8.ofNat (48 + d)).toNat : Int) = 0 ∧ ((UInt8.ofNat (48 + d)).toNat : Int) ≠ 120 := by
  rw [dig_toNat h]
  refine ⟨?_, ?_, ?_, by omega⟩
  · unfold letterB
    rw [decide_eq_false (show ¬ (97 : Int) ≤ ((48 + d : Nat) : Int) by omega), decide_eq_false (show ¬ (65 : Int) ≤ ((48 + d : Nat) : Int) by omega), decide_eq_false (show ¬ ((48 + d : Nat) : Int) = 95 by omega)]; rfl
  · unfold digitB
    rw [Bool.and_eq_true, decide_eq_true_eq, decide_eq_true_eq]; omega
  · unfold sufK
    rw [if_neg (by omega), if_neg (by omega), if_neg (by omega)]
theorem dec_word (u : Nat) : (Lib.decDigits u).all wordC = true := List.all_eq_true.2 fun c hc => by
  obtain ⟨d, h, rfl⟩ := dec_dig u c hc
  obtain ⟨h1, h2, -, -⟩ := dig_word h
  unfold wordC
  rw [h1, h2]; rfl
theorem byte_mem {l : List UInt8} {i : Nat} (h : i < l.length) : ∃ c ∈ l, byteAt (mkB l) i = c.toNat := by
  refine ⟨l[i], List.getElem_mem h, ?_⟩
  show (((bts (mkB l)).getD i 0).toNat : Int) = _
  unfold mkB
  rw [bts_mk, List.getD_eq_getElem?_getD, List.getElem?_eq_getElem h]; rfl
theorem num_dec {u : Nat} (hu : u ≤ 9223372036854775808) : numS (mkB (Lib.decDigits u)) = (u, 0) := by
  obtain ⟨d, p, hd, hp, h0⟩ := dec_head u
  have hl : 0 < (Lib.decDigits u).length := by rw [hp]; simp
  obtain ⟨c, hc, hb⟩ := byte_mem (l := Lib.decDigits u) (i := (Lib.decDigits u).length - 1) (by omega)
  have hsz := mkB_size (Lib.decDigits u)
  have hsh : sufK (byteAt (mkB (Lib.decDigits u)) ((mkB (Lib.decDigits u)).size - 1)) = 0 := by
    rw [hsz, hb]
    obtain ⟨d2, h2, rfl⟩ := dec_dig u c hc
    exact (dig_word h2).2.2.1
  have hno : ¬ (2 ≤ (mkB (Lib.decDigits u)).size ∧ byteAt (mkB (Lib.decDigits u)) 0 = 48 ∧ byteAt (mkB (Lib.decDigits u)) 1 = 120) := fun q => by
    obtain ⟨c2, hc2, hb2⟩ := byte_mem (l := Lib.decDigits u) (i := 1) (by omega)
    obtain ⟨d2, h2, rfl⟩ := dec_dig u c2 hc2
    exact (dig_word h2).2.2.2 (hb2.symm.trans q.2.2)
  have hlz : ¬ ((mkB (Lib.decDigits u)).size = 0 ∨ (1 < (mkB (Lib.decDigits u)).size ∧ byteAt (mkB (Lib.decDigits u)) 0 = 48)) := fun q => by
    rcases q with q | ⟨q1, q2⟩
    · omega
    · have hb0 : byteAt (mkB (Lib.decDigits u)) 0 = ((UInt8.ofNat (48 + d)).toNat : Int) := by rw [hp]; rfl
      rw [hb0, dig_toNat hd] at q2
      have := h0 (by omega)
      rw [hsz, hp, this] at q1
      simp at q1
  have hall : (Lib.decDigits u).all (fun c => decide (0 ≤ digV c.toNat ((10 : Nat) : Int))) = true := List.all_eq_true.2 fun c hc => by
    obtain ⟨d2, h2, rfl⟩ := dec_dig u c hc
    rw [show ((10 : Nat) : Int) = 10 from rfl, digV_dec h2]
    exact decide_eq_true (by omega)
  have hcore : numCore 10 0 (Lib.decDigits u) = (u, 0) := by
    unfold numCore
    rw [hall, if_neg (by decide), valL_dec, if_neg (by show ¬ 18446744073709551615 >>> 0 < u; rw [Nat.shiftRight_zero]; omega), Nat.shiftLeft_zero]
  unfold numS
  simp only [hsh]
  rw [if_neg (show ¬ (0 : Nat) < 0 by decide), if_neg hno, if_neg hlz]
  unfold mkB
  rw [bts_mk]
  exact hcore
theorem tkz_num {u : Nat} (hu : u ≤ 9223372036854775808) {l : List UInt8} (hl : noW l) : tokS (mkB (Lib.decDigits u ++ l)) = ⟨2, ⟨#[]⟩, u, (Lib.decDigits u).length, 0⟩ := by
  have hr := run_of (dec_word u) hl
  have hs : bSub (mkB (Lib.decDigits u ++ l)) 0 (Lib.decDigits u).length = mkB (Lib.decDigits u) := sub_pre
  have hn := num_dec hu
  obtain ⟨d, p, hd, hp, -⟩ := dec_head u
  have hb : byteAt (mkB (Lib.decDigits u ++ l)) 0 = ((UInt8.ofNat (48 + d)).toNat : Int) := by rw [hp]; rfl
  obtain ⟨h1, h2, -, -⟩ := dig_word hd
  unfold tokS
  rw [hr, hs, hn, hb, if_neg (by rw [h1]; decide), if_pos h2, if_pos rfl]
/-! ### facts -/
def valToks (v : Val) : List Tri := if v.Kind = 1 then (if v.Num < 0 then [(4, mkB [45], 0), (2, ⟨#[]⟩, (v.Num.natAbs : Nat))] else [(2, ⟨#[]⟩, (v.Num.toNat : Nat))]) else if nameS v.Word = true then [(1, v.Word, 0)] else [(3, v.Word, 0)]
theorem Tz.word {t : ByteArray} {l : List UInt8} {ks : List Tri} (ht : wordS t = true) (hl : noW l) (h : Tz l ks) : Tz (bts t ++ l) ((1, t, 0) :: ks) := by
  unfold wordS at ht
  simp only [Bool.and_eq_true, decide_eq_true_eq] at ht
  obtain ⟨⟨h0, h1⟩, h2⟩ := ht
  have hb : 0 < (bts t).length := by rw [bts_len]; exact h0
  have h1 : letterB (((bts t).getD 0 0).toNat : Int) = true := h1
  have h2 : (bts t).all wordC = true := h2
  have hm := mkB_bts t
  generalize bts t = b at *
  cases b with
  | nil => simp at hb
  | cons c p =>
    have hc : letterB (c.toNat : Int) = true := h1
    have hk := tkz_word hc h2 hl
    rw [hm] at hk
    have hsp : spaceB (c.toNat : Int) = false ∧ (c.toNat : Int) ≠ 35 := by
      unfold letterB at hc
      simp only [Bool.or_eq_true, Bool.and_eq_true, decide_eq_true_eq] at hc
      unfold spaceB
      simp only [Bool.or_eq_false_iff, decide_eq_false_iff_not]
      omega
    exact Tz.tok (v := 0) hsp.1 hsp.2 hk h
theorem Tz.num {u : Nat} (hu : u ≤ 9223372036854775808) {l : List UInt8} {ks : List Tri} (hl : noW l) (h : Tz l ks) : Tz (Lib.decDigits u ++ l) ((2, ⟨#[]⟩, (u : Nat)) :: ks) := by
  have hk := tkz_num hu hl
  obtain ⟨d, p, hd, hp, -⟩ := dec_head u
  rw [hp] at hk ⊢
  refine Tz.tok (v := u) ?_ ?_ hk h
  · rw [dig_toNat hd]; unfold spaceB; simp only [Bool.or_eq_false_iff, decide_eq_false_iff_not]; omega
  · rw [dig_toNat hd]; omega
theorem Tz.p1 {c : UInt8} {l : List UInt8} {ks : List Tri} (hc : c = 40 ∨ c = 41 ∨ c = 44) (h : Tz l ks) : Tz (c :: l) ((4, mkB [c], 0) :: ks) :=
  Tz.tok (c := c) (p := []) (v := 0) (by rcases hc with q | q | q <;> subst q <;> decide) (by rcases hc with q | q | q <;> subst q <;> decide) (tkz_pun1 hc) h
theorem Tz.p2 {c d : UInt8} {l : List UInt8} {ks : List Tri} (hc : (c = 46 ∧ d = 10) ∨ (c = 45 ∧ digitB d.toNat = true)) (h : Tz (d :: l) ks) : Tz (c :: d :: l) ((4, mkB [c], 0) :: ks) :=
  Tz.tok (c := c) (p := []) (v := 0) (by rcases hc with ⟨q, -⟩ | ⟨q, -⟩ <;> subst q <;> decide) (by rcases hc with ⟨q, -⟩ | ⟨q, -⟩ <;> subst q <;> decide) (tkz_pun2 hc) h
theorem Tz.str {t : ByteArray} {l : List UInt8} {ks : List Tri} (ht : allStr t = true) (h : Tz l ks) : Tz ((34 :: (bts t ++ [34])) ++ l) ((3, t, 0) :: ks) := by
  have hk := tkz_str (l := l) (p := bts t) ht
  rw [mkB_bts] at hk
  exact Tz.tok (v := 0) (by decide) (by decide) hk h
theorem Tz.val {v : Val} (hv : ValOk v) (hr : rightV v = true) {l : List UInt8} {ks : List Tri} (hl : noW l) (h : Tz l ks) : Tz (bts (valS v) ++ l) (valToks v ++ ks) := by
  unfold valS valToks
  obtain ⟨⟨hv0, hv1⟩, hv2⟩ := hv
  by_cases hk : v.Kind = 1
  · rw [if_pos hk, if_pos hk]
    unfold itoaB Lib.itoa
    by_cases hn : v.Num < 0
    · rw [if_pos hn, if_pos hn, bts_mk]
      have := Tz.num (u := v.Num.natAbs) (by omega) hl h
      obtain ⟨d, p, hd, hp, -⟩ := dec_head v.Num.natAbs
      rw [hp] at this ⊢
      exact Tz.p2 (.inr ⟨rfl, (dig_word hd).2.1⟩) this
    · rw [if_neg hn, if_neg hn, bts_mk]
      exact Tz.num (by omega) hl h
  · rw [if_neg hk, if_neg hk]
    unfold rightV textS at hr
    simp only [Bool.or_eq_true, Bool.and_eq_true, decide_eq_true_eq] at hr
    have hr := hr.resolve_left fun q => hk q.1
    by_cases hw : nameS v.Word = true
    · rw [if_pos hw, if_pos hw]
      unfold nameS at hw
      rw [Bool.and_eq_true] at hw
      exact Tz.word hw.1 hl h
    · rw [if_neg hw, if_neg hw, bts_ap, bts_ap]
      have := Tz.str (l := l) hr.2.1.1 h
      show Tz (([34] ++ bts v.Word ++ [34]) ++ l) _
      simpa using this
def argsL : List Val → List UInt8
  | [] => []
  | [v] => bts (valS v)
  | v :: w :: vs => bts (valS v) ++ 44 :: 32 :: argsL (w :: vs)
def argsToks : List Val → List Tri
  | [] => []
  | [v] => valToks v
  | v :: w :: vs => valToks v ++ (4, mkB [44], 0) :: argsToks (w :: vs)
theorem argsL_join : ∀ vs : List Val, bts (joinB (vs.map valS)) = argsL vs
  | [] => by rw [bts_join]; rfl
  | [v] => by rw [bts_join]; exact Lib.join_one _ _
  | v :: w :: vs => by
    have ih := argsL_join (w :: vs)
    rw [bts_join] at ih ⊢
    rw [List.map_cons, List.map_cons, Lib.join_cons] at ih
    rw [List.map_cons, List.map_cons, List.map_cons, List.map_cons, Lib.join_cons]
    show _ = bts (valS v) ++ 44 :: 32 :: argsL (w :: vs)
    rw [← ih]
    unfold Lib.joinTail
    rw [List.map_cons, List.flatten_cons]
    show bts (valS v) ++ ((bts sepB ++ bts (valS w)) ++ _) = _
    rw [List.append_assoc]; rfl
theorem Tz.args {l : List UInt8} {ks : List Tri} (hl : noW l) (h : Tz l ks) : ∀ vs : List Val, vs ≠ [] → (∀ v ∈ vs, ValOk v ∧ rightV v = true) → Tz (argsL vs ++ l) (argsToks vs ++ ks)
  | [], hn, _ => absurd rfl hn
  | [v], _, hv => Tz.val (hv v (by simp)).1 (hv v (by simp)).2 hl h
  | v :: w :: vs, _, hv => by
    have ih := Tz.args hl h (w :: vs) (by simp) fun u hu => hv u (List.mem_cons_of_mem _ hu)
    show Tz ((bts (valS v) ++ 44 :: 32 :: argsL (w :: vs)) ++ l) ((valToks v ++ (4, mkB [44], 0) :: argsToks (w :: vs)) ++ ks)
    rw [List.append_assoc, List.append_assoc]
    refine Tz.val (hv v (by simp)).1 (hv v (by simp)).2 (show wordC 44 = false by decide) ?_
    exact Tz.p1 (.inr (.inr rfl)) (Tz.sp (by decide) ih)
def lineToks (x : Fact) : List Tri := (1, x.1, 0) :: (4, mkB [40], 0) :: (argsToks x.2 ++ [(4, mkB [41], 0), (4, mkB [46], 0)])
theorem Tz.line {x : Fact} (hx : FactOk x) (hr : rightS x = true) {l : List UInt8} {ks : List Tri} (h : Tz l ks) : Tz (lineL x ++ l) (lineToks x ++ ks) := by
  unfold rightS at hr
  simp only [Bool.and_eq_true, decide_eq_true_eq] at hr
  obtain ⟨⟨⟨q1, q2⟩, q3⟩, q4⟩ := hr
  have hL : lineL x ++ l = bts x.1 ++ (40 :: (argsL x.2 ++ (41 :: 46 :: 10 :: l))) := by
    show bts (lineB x) ++ l = _
    unfold lineB
    rw [bts_ap, bts_ap, bts_ap, argsL_join]
    show ((bts x.1 ++ [40]) ++ argsL x.2) ++ [41, 46, 10] ++ l = _
    simp
  rw [hL]
  unfold lineToks
  unfold nameS at q1
  rw [Bool.and_eq_true] at q1
  show Tz _ ((1, x.1, 0) :: (4, mkB [40], 0) :: ((argsToks x.2 ++ [(4, mkB [41], 0), (4, mkB [46], 0)]) ++ ks))
  rw [List.append_assoc]
  refine Tz.word q1.1 (show wordC 40 = false by decide) (Tz.p1 (.inl rfl) ?_)
  refine Tz.args (l := 41 :: 46 :: 10 :: l) (show wordC 41 = false by decide) ?_ x.2 (fun q => by rw [q] at q2; simp at q2) fun v hv => ⟨hx.2.2 v hv, List.all_eq_true.1 q4 v hv⟩
  exact Tz.p1 (.inr (.inl rfl)) (Tz.p2 (.inl ⟨rfl, rfl⟩) (Tz.sp (by decide) h))
theorem Tz.lines : ∀ l : List Fact, (∀ x ∈ l, FactOk x ∧ rightS x = true) → Tz (l.flatMap lineL) (l.flatMap lineToks)
  | [], _ => Tz.nil
  | x :: l, h => by
    rw [List.flatMap_cons, List.flatMap_cons]
    exact Tz.line (h x (by simp)).1 (h x (by simp)).2 (Tz.lines l fun y hy => h y (List.mem_cons_of_mem _ hy))
end Go.Proofs.YtmjkacgmepbljaaGreatDoor
end
/- The reference's lexer: punctuation marks, the end of a token, positions. -/
section
open Go Mk
namespace Go.Proofs.YtmjkacgmepbljaaGreatDoor
set_option maxHeartbeats 4000000
attribute [local irreducible] Calls

def twoL : List ByteArray := [⟨#[60, 61]⟩, ⟨#[62, 61]⟩, ⟨#[33, 61]⟩, ⟨#[46, 46]⟩, ⟨#[45, 62]⟩]
def marksL : List ByteArray := [⟨#[60, 61]⟩, ⟨#[62, 61]⟩, ⟨#[33, 61]⟩, ⟨#[46, 46]⟩, ⟨#[45, 62]⟩, ⟨#[123]⟩, ⟨#[125]⟩, ⟨#[40]⟩, ⟨#[41]⟩, ⟨#[91]⟩, ⟨#[93]⟩, ⟨#[44]⟩, ⟨#[59]⟩, ⟨#[58]⟩, ⟨#[61]⟩, ⟨#[60]⟩, ⟨#[62]⟩, ⟨#[33]⟩, ⟨#[43]⟩, ⟨#[45]⟩, ⟨#[42]⟩, ⟨#[63]⟩, ⟨#[46]⟩, ⟨#[47]⟩]
abbrev strRow (l : List ByteArray) : List (List Value) := l.map fun x => [.string x]
theorem marks_any {Γ : Gho} {S : List Res} {w : World} (hw : Wd Γ S w) :
    Calls Tryz.prog 146 #[] w fun e w' => ∃ v, e = .returned v ∧ Wd Γ (.own v 9 1 (strRow marksL) :: S) w' := by
  refine calls_of_W Tryz.func146 rfl rfl ?_
  repeat (first | refine byW ?_ | (refine byV ?_; intro w hw))
  refine lBuildSlice (strRow marksL) ?_
  intro a w hw
  repeat (first | refine byW ?_ | (refine byV ?_; intro w hw))
  exact ⟨_, rfl, _, rfl, hw⟩
/-- Does s begin with m? -/
def preB (s m : ByteArray) : Bool := decide (m.size ≤ s.size) && decide (bSub s 0 m.size = m)
theorem one_byte {s : ByteArray} (h : 1 ≤ s.size) : bSub s 0 1 = ⟨#[s.data.toList.getD 0 0]⟩ := by
  have hl := bts_len s
  apply bts_ext
  rw [bts_sub]
  match hb : bts s with
  | [] => rw [hb] at hl; simp at hl; omega
  | x :: r =>
    have : s.data.toList.getD 0 0 = x := by show (bts s).getD 0 0 = x; rw [hb]; rfl
    rw [this]; rfl
theorem pre_two {s : ByteArray} : (twoL.any fun m => preB s m) = decide (2 ≤ s.size ∧ two2 (byteAt s 0) (byteAt s 1) = true) := by
  by_cases h : 2 ≤ s.size
  · obtain ⟨x, y, hx, hy, hxy⟩ := two_bytes h
    rw [hx, hy]
    have e : ∀ a b : UInt8, preB s ⟨#[a, b]⟩ = (decide ((x.toNat : Int) = a.toNat) && decide ((y.toNat : Int) = b.toNat)) := fun a b => by
      unfold preB
      show (decide (2 ≤ s.size) && decide (bSub s 0 2 = ⟨#[a, b]⟩)) = _
      rw [hxy, decide_eq_true h, Bool.true_and, ← Bool.decide_and, decide_eq_decide, pair_eq]
      omega
    simp only [twoL, List.any_cons, List.any_nil, e, Bool.or_false]
    rw [Bool.eq_iff_iff]
    simp only [two2, Bool.or_eq_true, Bool.and_eq_true, decide_eq_true_eq, h, true_and]
    show _ ∨ _ ↔ _
    constructor
    · rintro (h | h | h | h | h) <;> simp_all
    · rintro ((((h | h) | h) | h) | h) <;> simp_all
  · have e : ∀ a b : UInt8, preB s ⟨#[a, b]⟩ = false := fun a b => by
      unfold preB
      show (decide (2 ≤ s.size) && _) = false
      rw [decide_eq_false h]; rfl
    simp only [twoL, List.any_cons, List.any_nil, e]
    simp [h]
theorem pre_one {s : ByteArray} {a : UInt8} : preB s ⟨#[a]⟩ = decide (0 < s.size ∧ s.data.toList.getD 0 0 = a) := by
  unfold preB
  show (decide (1 ≤ s.size) && decide (bSub s 0 1 = ⟨#[a]⟩)) = _
  by_cases h : 1 ≤ s.size
  · rw [one_byte h, decide_eq_true h, Bool.true_and, decide_eq_decide]
    have : 0 < s.size := h
    simp [this]
  · have h2 : ¬ 0 < s.size := h
    simp [h, h2]
theorem marks_split : marksL = twoL ++ oneB.map fun a => ⟨#[a]⟩ := by decide +kernel
theorem marks_none {s : ByteArray} (h : ∀ m ∈ marksL, preB s m = false) : punctN s = 0 := by
  rw [marks_split] at h
  have h2 : (twoL.any fun m => preB s m) = false := by
    rw [List.any_eq_false]
    intro m hm; rw [h m (List.mem_append_left _ hm)]; decide
  rw [pre_two] at h2
  unfold punctN
  rw [if_neg (of_decide_eq_false h2), if_neg]
  rintro ⟨h3, h4⟩
  have := h _ (List.mem_append_right _ (List.mem_map_of_mem h4))
  rw [pre_one] at this
  exact of_decide_eq_false this ⟨h3, rfl⟩
theorem marks_at {s m : ByteArray} {k : Nat} (hm : marksL[k]? = some m) (hp : preB s m = true) (hn : ∀ j m', j < k → marksL[j]? = some m' → preB s m' = false) : punctN s = m.size := by
  rw [marks_split] at hm hn
  have hl : twoL.length = 5 := rfl
  unfold punctN
  by_cases hk : k < 5
  · rw [List.getElem?_append_left (by omega)] at hm
    have hmem := List.mem_of_getElem? hm
    have h2 : (twoL.any fun m => preB s m) = true := List.any_eq_true.2 ⟨m, hmem, hp⟩
    rw [pre_two] at h2
    rw [if_pos (of_decide_eq_true h2)]
    have : ∀ x ∈ twoL, x.size = 2 := by decide
    exact (this m hmem).symm
  · have h2 : (twoL.any fun m => preB s m) = false := by
      rw [List.any_eq_false]
      intro x hx
      obtain ⟨j, hj⟩ := List.getElem?_of_mem hx
      have hjl := (List.getElem?_eq_some_iff.1 hj).1
      rw [hn j x (by omega) (by rw [List.getElem?_append_left (by omega)]; exact hj)]; decide
    rw [pre_two] at h2
    rw [if_neg (of_decide_eq_false h2)]
    rw [List.getElem?_append_right (by omega), List.getElem?_map] at hm
    cases hb : oneB[k - twoL.length]? with
    | none => rw [hb] at hm; cases hm
    | some a =>
      rw [hb] at hm
      cases hm
      have hp := of_decide_eq_true (pre_one.symm.trans hp)
      rw [if_pos ⟨hp.1, by rw [hp.2]; exact List.mem_of_getElem? hb⟩]; rfl
theorem mark_any {Γ : Gho} {S : List Res} {w : World} (s : ByteArray) (i : Nat) (hi : i < s.size) (hs : s.size ≤ 4611686018427387904) (hw : Wd Γ S w) :
    Calls Tryz.prog 126 #[.string s, .int .i64 i] w fun e w' => ∃ t : ByteArray, e = .returned (.string t) ∧ t.size = punctN (bSub s i s.size) ∧ Wd Γ S w' := by
  refine calls_of_W Tryz.func126 rfl rfl ?_
  repeat (first | refine byW ?_ | (refine byV ?_; intro w hw))
  refine lCall ?_
  refine (marks_any hw).mono ?_
  clear hw
  rintro e w ⟨v, rfl, hw⟩
  refine ⟨_, rfl, ?_⟩
  obtain ⟨a, n, c, rfl, hn, hm, hx⟩ := hw.own_shape (i := 0) rfl
  have hn : n = 24 := hn
  subst hn
  repeat (first | refine byW ?_ | (refine byV ?_; intro w hw))
  refine W_loop (fun μ ρ w => ∃ (k : Nat), μ + k = 24 ∧ (∀ j m', j < k → marksL[j]? = some m' → preB (bSub s i s.size) m' = false) ∧ Has ρ [(0, .string s), (1, .int .i64 i), (5, .slice a 24 c), (6, .int .i64 (k : Nat))] ∧ Wd Γ (.own (.slice a 24 c) 9 1 (strRow marksL) :: S) w) 24 ⟨0, by omega, by simp, ⟨rfl, rfl, rfl, rfl, trivial⟩, hw⟩ ?_
  clear hw
  rintro μ ρ w ⟨k, hk, hj, hρ, hw⟩
  rw [hρ.eq]
  have hsz : (bSub s i s.size).size = s.size - i := sub_size (Nat.le_refl _)
  repeat (first | refine byW ?_ | (refine byV ?_; intro w hw))
  refine W_cond rfl (fun h => ?_) (fun h => ?_)
  · have hkn : k < 24 := by have := of_decide_eq_true h; omega
    obtain ⟨m, hm⟩ := get_lt (l := marksL) (k := k) (by show k < 24; omega)
    have hms : m.size ≤ 2 := by
      have : ∀ x ∈ marksL, x.size ≤ 2 := by decide
      exact this m (List.mem_of_getElem? hm)
    have hrow : (strRow marksL)[k]? = some [.string m] := by simp [strRow, hm]
    have key : ∀ b : Bool, b = (decide ((m.size : Int) ≤ (s.size : Int) - i) && decide (bSub s (i : Int).toNat ((i : Int) + m.size).toNat = m)) → b = preB (bSub s i s.size) m := fun b hb => by
      rw [hb]
      unfold preB
      by_cases h1 : (m.size : Int) ≤ (s.size : Int) - i
      · have h2 : m.size ≤ (bSub s i s.size).size := by omega
        rw [decide_eq_true h1, decide_eq_true h2, sub_sub (by omega)]
        rfl
      · have h2 : ¬ m.size ≤ (bSub s i s.size).size := by omega
        rw [decide_eq_false h1, decide_eq_false h2]; rfl
    repeat (first | refine byW ?_ | (refine byV ?_; intro w hw))
    refine W_quiet (by kernel_rfl) (by kernel_rfl) hw ?_
    repeat (first | refine Q_nil ?_ | (apply Q_plain; first | (apply Q_go; first | refine qP ?_ | refine qPg ?_) | refine qY ?_) | (apply Q_guarded; first | (apply Q_go; first | refine qPG ?_ | refine qPgG ?_) | refine qG ?_))
    intro w hw
    refine W_cond rfl (fun h2 => ?_) (fun h2 => ?_)
    · have hp : preB (bSub s i s.size) m = true := (key _ rfl).symm.trans h2
      repeat (first | refine byW ?_ | (refine byV ?_; intro w hw))
      exact ⟨_, rfl, m, rfl, (marks_at hm hp hj).symm, hw.drop⟩
    · have hp : preB (bSub s i s.size) m = false := (key _ rfl).symm.trans h2
      repeat (first | refine byW ?_ | (refine byV ?_; intro w hw))
      refine ⟨μ - 1, by omega, k + 1, by omega, fun j m' hjk hm' => ?_, ⟨rfl, rfl, rfl, rfl, trivial⟩, hw⟩
      rcases Nat.lt_succ_iff_lt_or_eq.1 hjk with hlt | rfl
      · exact hj j m' hlt hm'
      · rw [hm] at hm'; cases hm'; exact hp
  · have hkn : k = 24 := by have := of_decide_eq_false h; omega
    have h0 : punctN (bSub s i s.size) = 0 := marks_none fun m hm => by
      obtain ⟨j, hj2⟩ := List.getElem?_of_mem hm
      exact hj j m (by have := (List.getElem?_eq_some_iff.1 hj2).1; have e : marksL.length = 24 := rfl; omega) hj2
    repeat (first | refine byW ?_ | (refine byV ?_; intro w hw))
    exact ⟨_, rfl, ⟨#[]⟩, rfl, h0.symm, hw.drop⟩
end Go.Proofs.YtmjkacgmepbljaaGreatDoor
end
/- The reference's lexer: the end of a token; the position of an offset. -/
section
open Go Mk
namespace Go.Proofs.YtmjkacgmepbljaaGreatDoor
set_option maxHeartbeats 4000000
attribute [local irreducible] Calls punctN posAt

/-- The length of the token with which t begins, or 0. -/
def endN (t : ByteArray) : Nat :=
  if letterB (byteAt t 0) = true ∨ digitB (byteAt t 0) = true then runN t
  else if byteAt t 0 = 34 then (if strN t < t.size ∧ byteAt t (strN t) = 34 then strN t + 1 else 0)
  else punctN t
theorem ret_i2 {k : IntKind} {a b : Int} (h : a = b) : Ending.returned (.int k a) = Ending.returned (.int k b) := by rw [h]
theorem end_any {Γ : Gho} {S : List Res} {w : World} (s : ByteArray) (i : Nat) (hi : i < s.size) (hs : s.size ≤ 4611686018427387904) (hw : Wd Γ S w) :
    Calls Tryz.prog 108 #[.string s, .int .i64 i] w fun e w' => e = .returned (.int .i64 ((i + endN (bSub s i s.size) : Nat) : Int)) ∧ Wd Γ S w' := by
  refine calls_of_W Tryz.func108 rfl rfl ?_
  have hsz : (bSub s i s.size).size = s.size - i := sub_size (Nat.le_refl _)
  have hby : ∀ j, i + j < s.size → byteAt (bSub s i s.size) j = byteAt s (i + j) := fun j hj => byte_sub hj
  have hgt : ∀ j, i + j < s.size → (bSub s i s.size).data.toList.getD j 0 = s.data.toList.getD (i + j) 0 := fun j hj => by
    have := hby j hj
    unfold byteAt at this
    exact UInt8.toNat_inj.1 (by omega)
  have hlen := size_toList (bSub s i s.size)
  have hb0 : byteAt (bSub s i s.size) 0 = byteAt s i := by simpa using hby 0 (by omega)
  obtain ⟨t, ht⟩ : ∃ t, t = bSub s i s.size := ⟨_, rfl⟩
  rw [← ht] at hsz hby hgt hlen hb0 ⊢
  repeat (first | refine byW ?_ | (refine byV ?_; intro w hw))
  refine W_cond rfl (fun h => ?_) (fun h => ?_)
  · have h : letterB (byteAt t 0) = true ∨ digitB (byteAt t 0) = true := by
      rw [hb0]
      have h' : (letterB (byteAt s i) || digitB (byteAt s i)) = true := h
      simpa using h'
    have hE : endN t = runN t := by unfold endN; rw [if_pos h]
    rw [hE]
    repeat (first | refine byW ?_ | (refine byV ?_; intro w hw))
    refine W_loop (fun μ ρ w => ∃ (k : Nat), μ + (i + k) = s.size ∧ (∀ j, j < k → wordC (t.data.toList.getD j 0) = true) ∧ Has ρ [(0, .string s), (5, .int .i64 ((i + k : Nat) : Int))] ∧ Wd Γ S w) (s.size - i) ⟨0, by omega, by simp, ⟨rfl, rfl, trivial⟩, hw⟩ ?_
    clear hw h
    rintro μ ρ w ⟨k, hk, hall, hρ, hw⟩
    rw [hρ.eq]
    repeat (first | refine byW ?_ | (refine byV ?_; intro w hw))
    refine W_cond rfl (fun h => ?_) (fun h => ?_)
    · have h' := andL h
      simp only [decide_eq_true_eq] at h'
      have h2 : wordC (s.data.toList.getD (i + k) 0) = true := andR h
      repeat (first | refine byW ?_ | (refine byV ?_; intro w hw))
      refine ⟨μ - 1, by omega, k + 1, by omega, fun j hj => ?_, ⟨rfl, by push_cast; rfl, trivial⟩, hw⟩
      by_cases e : j = k
      · subst e; rw [hgt j (by omega)]; exact h2
      · exact hall j (by omega)
    · have hr := takeWhile_len (p := wordC) (l := t.data.toList) (k := k) (by omega) hall (fun hk' => by
        rw [hgt k (by omega)]
        rw [show decide (((i + k : Nat) : Int) < (s.size : Int)) = true from by simp; omega] at h
        exact h)
      repeat (first | refine byW ?_ | (refine byV ?_; intro w hw))
      refine ⟨_, rfl, ret_i2 ?_, hw⟩
      show ((i + k : Nat) : Int) = _
      unfold runN
      rw [hr]
  have h1 : ¬ (letterB (byteAt t 0) = true ∨ digitB (byteAt t 0) = true) := by
    rw [hb0]
    have h' : (letterB (byteAt s i) || digitB (byteAt s i)) = false := h
    simpa using h'
  repeat (first | refine byW ?_ | (refine byV ?_; intro w hw))
  refine W_cond rfl (fun h2 => ?_) (fun h2 => ?_)
  · have h2 : byteAt t 0 = 34 := by rw [hb0]; exact of_decide_eq_true h2
    have hE : endN t = if strN t < t.size ∧ byteAt t (strN t) = 34 then strN t + 1 else 0 := by unfold endN; rw [if_neg h1, if_pos h2]
    repeat (first | refine byW ?_ | (refine byV ?_; intro w hw))
    refine W_loop (fun μ ρ w => ∃ (k : Nat), 1 ≤ k ∧ μ + (i + k) = s.size ∧ (∀ j, 1 ≤ j → j < k → inStr (byteAt t j) = true) ∧ Has ρ [(0, .string s), (1, .int .i64 i), (5, .int .i64 ((i + k : Nat) : Int))] ∧ Wd Γ S w) (s.size - i - 1) ⟨1, by omega, by omega, fun j h1 h2 => by omega, ⟨rfl, rfl, by push_cast; rfl, trivial⟩, hw⟩ ?_
    clear hw h
    rintro μ ρ w ⟨k, hk1, hk, hall, hρ, hw⟩
    rw [hρ.eq]
    repeat (first | refine byW ?_ | (refine byV ?_; intro w hw))
    refine W_cond rfl (fun h => ?_) (fun h => ?_)
    · have h' := andL h
      simp only [decide_eq_true_eq] at h'
      have h3 : inStr (byteAt s (i + k)) = true := andR h
      repeat (first | refine byW ?_ | (refine byV ?_; intro w hw))
      refine ⟨μ - 1, by omega, k + 1, by omega, by omega, fun j hj1 hj => ?_, ⟨rfl, rfl, by push_cast; rfl, trivial⟩, hw⟩
      by_cases e : j = k
      · subst e; rw [hby j (by omega)]; exact h3
      · exact hall j hj1 (by omega)
    · have hr := strN_eq (s := t) (k := k) hk1 (by omega) hall (fun hk' => by
        rw [hby k (by omega)]
        rw [show decide (((i + k : Nat) : Int) < (s.size : Int)) = true from by simp; omega] at h
        exact h)
      rw [hr] at hE
      repeat (first | refine byW ?_ | (refine byV ?_; intro w hw))
      refine W_cond rfl (fun h3 => ?_) (fun h3 => ?_)
      · have h3' := andL h3
        simp only [decide_eq_true_eq] at h3'
        have h4 : byteAt s (i + k) = 34 := of_decide_eq_true (andR h3)
        rw [if_pos ⟨by omega, by rw [hby k (by omega)]; exact h4⟩] at hE
        repeat (first | refine byW ?_ | (refine byV ?_; intro w hw))
        refine ⟨_, rfl, ret_i2 ?_, hw⟩
        rw [hE]; push_cast; omega
      · rw [if_neg (fun hh => by
          rw [hby k (by omega)] at hh
          have q : (decide (((i + k : Nat) : Int) < (s.size : Int)) && decide (byteAt s (i + k) = 34)) = true := by
            simp only [Bool.and_eq_true, decide_eq_true_eq]
            exact ⟨by omega, hh.2⟩
          exact absurd (q.symm.trans h3) (by decide))] at hE
        repeat (first | refine byW ?_ | (refine byV ?_; intro w hw))
        refine ⟨_, rfl, ret_i2 ?_, hw⟩
        rw [hE]; rfl
  have h2 : ¬ byteAt t 0 = 34 := by rw [hb0]; exact of_decide_eq_false h2
  have hE : endN t = punctN t := by unfold endN; rw [if_neg h1, if_neg h2]
  repeat (first | refine byW ?_ | (refine byV ?_; intro w hw))
  refine lCall ?_
  refine (mark_any s i hi hs hw).mono ?_
  clear hw
  rintro e w ⟨m, rfl, hm, hw⟩
  refine ⟨_, rfl, ?_⟩
  rw [← ht] at hm
  have hp := punctN_le t
  repeat (first | refine byW ?_ | (refine byV ?_; intro w hw))
  refine ⟨_, rfl, ret_i2 ?_, hw⟩
  rw [hE, hm]; push_cast; rfl
theorem At_any {Γ : Gho} {S : List Res} {w : World} (s : ByteArray) (n : Nat) (hn : n ≤ s.size) (hs : s.size ≤ 4611686018427387904) (hw : Wd Γ S w) :
    Calls Tryz.prog 83 #[.string s, .int .i64 n] w fun e w' => e = .returned (.agg (enc (posAt s n)).toArray) ∧ Wd Γ S w' := by
  refine calls_of_WC Tryz.func83 rfl rfl ?_
  repeat (first | refine byW ?_ | (refine byV ?_; intro w hw))
  refine lAlloc ?_
  intro b1 w hw
  repeat (first | refine byW ?_ | (refine byV ?_; intro w hw))
  refine lAlloc ?_
  intro b2 w hw
  refine lStore ?_
  intro w hw
  have p0 : posAt s 0 = ⟨1, 1⟩ := by unfold posAt; rfl
  have hw : Wd Γ (.blk b2 (.cells (enc (posAt s 0)).toArray 33) :: .blk b1 (.cells (enc (⟨0, 0⟩ : PosT)).toArray 33) :: S) w := by rw [p0]; exact hw
  repeat (first | refine byW ?_ | (refine byV ?_; intro w hw))
  refine W_loop (fun μ ρ w => ∃ (k : Nat), μ + k = n ∧ (posAt s k).Line ≤ 1 + k ∧ (posAt s k).Col ≤ 1 + k ∧ 0 ≤ (posAt s k).Line ∧ 0 ≤ (posAt s k).Col ∧ Has ρ [(0, .string s), (1, .int .i64 n), (4, .pointer (some ⟨b1, 0, none⟩)), (5, .pointer (some ⟨b2, 0, none⟩)), (6, .int .i64 (k : Nat))] ∧ Wd Γ (.blk b2 (.cells (enc (posAt s k)).toArray 33) :: .blk b1 (.cells (enc (⟨0, 0⟩ : PosT)).toArray 33) :: S) w) n ⟨0, by omega, by rw [p0]; decide, by rw [p0]; decide, by rw [p0]; decide, by rw [p0]; decide, ⟨rfl, rfl, rfl, rfl, rfl, trivial⟩, hw⟩ ?_
  clear hw
  rintro μ ρ w ⟨k, hk, hl, hc, hl0, hc0, hρ, hw⟩
  rw [hρ.eq]
  repeat (first | refine byW ?_ | (refine byV ?_; intro w hw))
  refine W_cond rfl (fun h => ?_) (fun h => ?_)
  · have h' := andL h
    simp only [decide_eq_true_eq] at h'
    have hp1 : byteAt s k ≠ 10 → posAt s (k + 1) = ⟨(posAt s k).Line, (posAt s k).Col + 1⟩ := fun q => by
      have := posAt_run (s := s) (off := k) 1 (fun i hi => by rw [show k + i = k from by omega]; exact q)
      simpa using this
    have hp2 : byteAt s k = 10 → posAt s (k + 1) = ⟨(posAt s k).Line + 1, 1⟩ := posAt_nl
    repeat (first | refine byW ?_ | (refine byV ?_; intro w hw))
    refine lStore ?_
    intro w hw
    have hw : Wd Γ (.blk b2 (.cells #[.int .i64 (posAt s k).Line, .int .i64 ((posAt s k).Col + 1)] 33) :: .blk b1 (.cells (enc (⟨0, 0⟩ : PosT)).toArray 33) :: S) w := hw
    repeat (first | refine byW ?_ | (refine byV ?_; intro w hw))
    refine W_cond rfl (fun h2 => ?_) (fun h2 => ?_)
    · have h2 : byteAt s k = 10 := of_decide_eq_true h2
      repeat (first | refine byW ?_ | (refine byV ?_; intro w hw))
      refine lStore ?_
      intro w hw
      have hw : Wd Γ (.blk b2 (.cells (enc (posAt s (k + 1))).toArray 33) :: .blk b1 (.cells (enc (⟨0, 0⟩ : PosT)).toArray 33) :: S) w := by rw [hp2 h2]; exact hw
      repeat (first | refine byW ?_ | (refine byV ?_; intro w hw))
      exact ⟨μ - 1, by omega, k + 1, by omega, by rw [hp2 h2]; dsimp; omega, by rw [hp2 h2]; dsimp; omega, by rw [hp2 h2]; dsimp; omega, by rw [hp2 h2]; dsimp; omega, ⟨rfl, rfl, rfl, rfl, rfl, trivial⟩, hw⟩
    · have h2 : ¬ byteAt s k = 10 := of_decide_eq_false h2
      have hw : Wd Γ (.blk b2 (.cells (enc (posAt s (k + 1))).toArray 33) :: .blk b1 (.cells (enc (⟨0, 0⟩ : PosT)).toArray 33) :: S) w := by rw [hp1 h2]; exact hw
      repeat (first | refine byW ?_ | (refine byV ?_; intro w hw))
      exact ⟨μ - 1, by omega, k + 1, by omega, by rw [hp1 h2]; dsimp; omega, by rw [hp1 h2]; dsimp; omega, by rw [hp1 h2]; dsimp; omega, by rw [hp1 h2]; dsimp; omega, ⟨rfl, rfl, rfl, rfl, rfl, trivial⟩, hw⟩
  · have hkn : k = n := by
      have q : ¬ (k < n) := fun hh => by
        have q : (decide ((k : Int) < n) && decide ((k : Int) < s.size)) = true := by
          simp only [Bool.and_eq_true, decide_eq_true_eq]; omega
        exact absurd (q.symm.trans h) (by decide)
      omega
    rw [hkn] at hw
    repeat (first | refine byW ?_ | (refine byV ?_; intro w hw))
    refine lStore ?_
    intro w hw
    have hw : Wd Γ (.blk b2 (.cells (enc (posAt s n)).toArray 33) :: .blk b1 (.cells (enc (posAt s n)).toArray 33) :: S) w := hw
    repeat (first | refine byW ?_ | (refine byV ?_; intro w hw))
    exact ⟨[.agg (enc (posAt s n)).toArray], ⟨resC (i := 1) hw rfl rfl rfl, trivial⟩, rfl, hw.drop.drop⟩
end Go.Proofs.YtmjkacgmepbljaaGreatDoor
end
/- The reference's lexer: Scan answers as the program's. -/
section
open Go Mk
namespace Go.Proofs.YtmjkacgmepbljaaGreatDoor
set_option maxHeartbeats 8000000
attribute [local irreducible] Calls numS punctN tokS posAt skipN endN

theorem endN_le (t : ByteArray) : endN t ≤ t.size := by
  unfold endN
  split
  · exact runN_le t
  · split
    · split
      · rename_i h; omega
      · omega
    · exact punctN_le t
theorem tok_end0 {t : ByteArray} (h0 : 0 < t.size) (h : endN t = 0) : (tokS t).err = 50 := by
  unfold endN at h
  unfold tokS
  by_cases h1 : letterB (byteAt t 0) = true
  · rw [if_pos (.inl h1)] at h
    have : wordC (t.data.toList.getD 0 0) = true := by show (letterB (byteAt t 0) || _) = true; rw [h1]; rfl
    have := runN_pos h0 this
    omega
  · by_cases h2 : digitB (byteAt t 0) = true
    · rw [if_pos (.inr h2)] at h
      have : wordC (t.data.toList.getD 0 0) = true := by show (_ || digitB (byteAt t 0)) = true; rw [h2, Bool.or_true]
      have := runN_pos h0 this
      omega
    · rw [if_neg (by rintro (q | q) <;> contradiction)] at h
      rw [if_neg h1, if_neg h2]
      by_cases h3 : byteAt t 0 = 34
      · rw [if_pos h3] at h ⊢
        by_cases h4 : strN t < t.size ∧ byteAt t (strN t) = 34
        · rw [if_pos h4] at h; omega
        · rw [if_neg h4]; rfl
      · rw [if_neg h3] at h ⊢
        rw [if_pos h]; rfl
theorem endN_ld {t : ByteArray} (h : letterB (byteAt t 0) = true ∨ digitB (byteAt t 0) = true) : endN t = runN t := by unfold endN; rw [if_pos h]
theorem endN_34 {t : ByteArray} (h1 : ¬ letterB (byteAt t 0) = true) (h2 : ¬ digitB (byteAt t 0) = true) (h : byteAt t 0 = 34) : endN t = if strN t < t.size ∧ byteAt t (strN t) = 34 then strN t + 1 else 0 := by
  unfold endN; rw [if_neg (fun q => q.elim h1 h2), if_pos h]
theorem endN_p {t : ByteArray} (h1 : ¬ letterB (byteAt t 0) = true) (h2 : ¬ digitB (byteAt t 0) = true) (h : ¬ byteAt t 0 = 34) : endN t = punctN t := by
  unfold endN; rw [if_neg (fun q => q.elim h1 h2), if_neg h]
theorem tok_let {t : ByteArray} (h : letterB (byteAt t 0) = true) : tokS t = ⟨1, bSub t 0 (endN t), 0, endN t, 0⟩ := by
  rw [endN_ld (.inl h)]; unfold tokS; rw [if_pos h]
theorem tok_dig {t : ByteArray} (h1 : ¬ letterB (byteAt t 0) = true) (h : digitB (byteAt t 0) = true) : tokS t = if (numS (bSub t 0 (endN t))).2 = 0 then ⟨2, ⟨#[]⟩, (numS (bSub t 0 (endN t))).1, endN t, 0⟩ else tokErr (numS (bSub t 0 (endN t))).2 := by
  rw [endN_ld (.inr h)]; unfold tokS; rw [if_neg h1, if_pos h]
theorem tok_str {t : ByteArray} (h1 : ¬ letterB (byteAt t 0) = true) (h2 : ¬ digitB (byteAt t 0) = true) (h : byteAt t 0 = 34) (he : endN t ≠ 0) : tokS t = ⟨3, bSub t 1 (endN t - 1), 0, endN t, 0⟩ := by
  rw [endN_34 h1 h2 h] at he ⊢
  unfold tokS
  rw [if_neg h1, if_neg h2, if_pos h]
  by_cases h4 : strN t < t.size ∧ byteAt t (strN t) = 34
  · rw [if_pos h4, if_pos h4]; rfl
  · rw [if_neg h4] at he; exact absurd rfl he
theorem tok_pun {t : ByteArray} (h1 : ¬ letterB (byteAt t 0) = true) (h2 : ¬ digitB (byteAt t 0) = true) (h3 : ¬ byteAt t 0 = 34) (he : endN t ≠ 0) : tokS t = ⟨4, bSub t 0 (endN t), 0, endN t, 0⟩ := by
  rw [endN_p h1 h2 h3] at he ⊢
  unfold tokS
  rw [if_neg h1, if_neg h2, if_neg h3, if_neg he]
theorem quote_nl : ¬ letterB 34 = true ∧ ¬ digitB 34 = true := by decide

theorem RScan_any (Γ : Gho) (S : List Res) (w : World) (s : ByteArray) (hs : s.size ≤ 4611686018427387904) (hw : Wd Γ S w) :
    Calls Tryz.prog 81 #[.string s] w fun e w' => ∃ v, e = .returned (.tuple #[v, .agg (enc (scanS s).2.1).toArray, .int .i64 (scanS s).2.2]) ∧ Wd Γ (.own v 101 5 ((scanS s).1.map enc) :: S) w' := by
  refine calls_of_WC Tryz.func81 rfl rfl ?_
  repeat (first | refine byW ?_ | (refine byV ?_; intro w hw))
  refine lAlloc ?_
  intro b3 w hw
  have hw : Wd Γ (.blk b3 (.cells (enc (⟨0, 0⟩ : PosT)).toArray 33) :: S) w := hw
  repeat (first | refine byW ?_ | (refine byV ?_; intro w hw))
  refine W_cond rfl (fun h => ?_) (fun h => ?_)
  · have h : 65536 < s.size := by simp at h; omega
    have hS : scanS s = ([], ⟨0, 0⟩, 15) := by unfold scanS; rw [if_pos h]
    rw [hS]
    repeat (first | refine byW ?_ | (refine byV ?_; intro w hw))
    refine lStore ?_
    intro w hw
    have hw : Wd Γ (.blk b3 (.cells (enc (⟨0, 0⟩ : PosT)).toArray 33) :: S) w := hw
    repeat (first | refine byW ?_ | (refine byV ?_; intro w hw))
    exact ⟨[.slice none 0 0, .agg (enc (⟨0, 0⟩ : PosT)).toArray, .int .i64 15], ⟨rfl, resC (i := 0) hw rfl rfl rfl, rfl, trivial⟩, _, rfl, Wd.addNil hw.drop⟩
  have h : ¬ 65536 < s.size := by simp at h; omega
  have hS : scanS s = scanN s (s.size + 1) 0 [] := by unfold scanS; rw [if_neg h]
  rw [hS]
  clear hS
  repeat (first | refine byW ?_ | (refine byV ?_; intro w hw))
  refine lAlloc ?_
  intro b6 w hw
  refine lStore ?_
  intro w hw
  have p0 : posAt s 0 = ⟨1, 1⟩ := by unfold posAt; rfl
  have hw : Wd Γ (.blk b6 (.cells (enc (posAt s 0)).toArray 33) :: .blk b3 (.cells (enc (⟨0, 0⟩ : PosT)).toArray 33) :: S) w := by rw [p0]; exact hw
  repeat (first | refine byW ?_ | (refine byV ?_; intro w hw))
  refine W_loop (fun μ ρ w => ∃ (i : Nat) (g : Value) (toks : List Tok), i ≤ s.size ∧ s.size < μ + i ∧ (posAt s i).Line ≤ 1 + i ∧ (posAt s i).Col ≤ 1 + i ∧ 0 ≤ (posAt s i).Line ∧ 0 ≤ (posAt s i).Col ∧ toks.length ≤ i ∧ scanN s (s.size + 1) 0 [] = scanN s μ i toks ∧ Has ρ [(0, .string s), (3, .pointer (some ⟨b3, 0, none⟩)), (5, g), (6, .pointer (some ⟨b6, 0, none⟩)), (7, .int .i64 i)] ∧ Wd Γ (.own g 101 5 (toks.map enc) :: .blk b6 (.cells (enc (posAt s i)).toArray 33) :: .blk b3 (.cells (enc (⟨0, 0⟩ : PosT)).toArray 33) :: S) w) (s.size + 1) ?_ ?_
  · exact ⟨0, .slice none 0 0, [], by omega, by omega, by rw [p0]; decide, by rw [p0]; decide, by rw [p0]; decide, by rw [p0]; decide, by simp, rfl, ⟨rfl, rfl, rfl, rfl, rfl, trivial⟩, Wd.addNil hw⟩
  clear hw
  rintro μ ρ w ⟨i, g, toks, ho, hμ, hl1, hc1, hl0, hc0, htl, hN, hρ, hw⟩
  rw [hρ.eq]
  obtain ⟨f, rfl⟩ : ∃ f, μ = f + 1 := ⟨μ - 1, by omega⟩
  rw [hN]
  clear hN hρ
  repeat (first | refine byW ?_ | (refine byV ?_; intro w hw))
  refine W_cond rfl (fun h1 => ?_) (fun h1 => ?_)
  · have hi : i < s.size := by simpa using h1
    have hsz : (bSub s i s.size).size = s.size - i := sub_size (Nat.le_refl _)
    have hb0 : byteAt (bSub s i s.size) 0 = byteAt s i := by have := byte_sub (s := s) (a := i) (b := s.size) (j := 0) (by omega); simpa using this
    have hee := endN_le (bSub s i s.size)
    repeat (first | refine byW ?_ | (refine byV ?_; intro w hw))
    refine W_cutT (fun ρ w => ∃ (k : Nat) (g : Value) (toks' : List Tok), i < k ∧ k ≤ s.size ∧ toks'.length ≤ i + 1 ∧ scanN s (f + 1) i toks = scanN s f k toks' ∧ Has ρ [(0, .string s), (3, .pointer (some ⟨b3, 0, none⟩)), (5, g), (6, .pointer (some ⟨b6, 0, none⟩)), (7, .int .i64 i), (9, .int .i64 k)] ∧ Wd Γ (.own g 101 5 (toks'.map enc) :: .blk b6 (.cells (enc (posAt s i)).toArray 33) :: .blk b3 (.cells (enc (⟨0, 0⟩ : PosT)).toArray 33) :: S) w) ?_ ?_
    · refine W_cond rfl (fun h2 => ?_) (fun h2 => ?_)
      · have h2 : byteAt s i = 35 := of_decide_eq_true h2
        have hsk : scanN s (f + 1) i toks = scanN s f (skipN s i) toks := by
          show (if s.size ≤ i then _ else _) = _
          rw [if_neg (by omega), if_neg (by rw [h2]; decide), if_pos h2]
        repeat (first | refine byW ?_ | (refine byV ?_; intro w hw))
        refine W_loop (fun μ ρ w => ∃ k : Nat, μ + k = s.size ∧ i < k ∧ Has ρ [(0, .string s), (3, .pointer (some ⟨b3, 0, none⟩)), (5, g), (6, .pointer (some ⟨b6, 0, none⟩)), (7, .int .i64 i), (9, .int .i64 k)] ∧ (∀ j, i ≤ j → j < k → byteAt s j ≠ 10) ∧ Wd Γ (.own g 101 5 (toks.map enc) :: .blk b6 (.cells (enc (posAt s i)).toArray 33) :: .blk b3 (.cells (enc (⟨0, 0⟩ : PosT)).toArray 33) :: S) w) (s.size - (i + 1)) ⟨i + 1, by omega, by omega, ⟨rfl, rfl, rfl, rfl, rfl, by push_cast; rfl, trivial⟩, fun j q1 q2 => by (have : j = i := by omega); subst this; rw [h2]; decide, hw⟩ ?_
        clear hw
        rintro μ2 ρ w ⟨k, hk, hk1, hρ, hall, hw⟩
        rw [hρ.eq]
        repeat (first | refine byW ?_ | (refine byV ?_; intro w hw))
        refine W_cond rfl (fun h4 => ?_) (fun h4 => ?_)
        · have h4 : k < s.size ∧ byteAt s k ≠ 10 := by
            rw [Bool.and_eq_true, decide_eq_true_eq] at h4
            exact ⟨by omega, of_decide_eq_true h4.2⟩
          have hkl := h4.1
          repeat (first | refine byW ?_ | (refine byV ?_; intro w hw))
          refine ⟨μ2 - 1, by omega, k + 1, by omega, by omega, ⟨rfl, rfl, rfl, rfl, rfl, rfl, trivial⟩, fun j q1 q2 => ?_, hw⟩
          by_cases e : j = k
          · subst e; exact h4.2
          · exact hall j q1 (by omega)
        · have hend : k < s.size → byteAt s k = 10 := fun hlt => by
            have q1 : decide ((k : Int) < s.size) = true := by simp; omega
            rw [q1, Bool.true_and] at h4
            have := of_decide_eq_false h4
            exact Classical.not_not.1 this
          have hks : skipN s i = k := skipN_eq (by omega) (by omega) hall hend
          repeat (first | refine byW ?_ | (refine byV ?_; intro w hw))
          exact ⟨k, g, toks, by omega, by omega, by omega, by rw [hsk, hks], ⟨rfl, rfl, rfl, rfl, rfl, rfl, trivial⟩, hw⟩
      have h2 : byteAt s i ≠ 35 := of_decide_eq_false h2
      repeat (first | refine byW ?_ | (refine byV ?_; intro w hw))
      refine W_cond rfl (fun h3 => ?_) (fun h3 => ?_)
      rotate_left
      · have hsp : spaceB (byteAt s i) = true := by
          unfold spaceB
          have h3 : (decide (byteAt s i ≠ 32) && decide (byteAt s i ≠ 9) && decide (byteAt s i ≠ 10) && decide (byteAt s i ≠ 13)) = false := h3
          by_cases q1 : byteAt s i = 32 <;> by_cases q2 : byteAt s i = 9 <;> by_cases q3 : byteAt s i = 10 <;> by_cases q4 : byteAt s i = 13 <;> simp_all
        repeat (first | refine byW ?_ | (refine byV ?_; intro w hw))
        refine ⟨i + 1, g, toks, by omega, by omega, by omega, ?_, ⟨rfl, rfl, rfl, rfl, rfl, by push_cast; rfl, trivial⟩, hw⟩
        show (if s.size ≤ i then _ else _) = _
        rw [if_neg (by omega), if_pos hsp]
      have hns : ¬ spaceB (byteAt s i) = true := by
        have h3 : (decide (byteAt s i ≠ 32) && decide (byteAt s i ≠ 9) && decide (byteAt s i ≠ 10) && decide (byteAt s i ≠ 13)) = true := h3
        unfold spaceB
        simp only [Bool.and_eq_true, decide_eq_true_eq] at h3
        simp [h3]
      have hstep : scanN s (f + 1) i toks = if (tokS (bSub s i s.size)).err = 0 then scanN s f (i + (tokS (bSub s i s.size)).n) (toks ++ [⟨(tokS (bSub s i s.size)).kind, (tokS (bSub s i s.size)).text, (tokS (bSub s i s.size)).value, (posAt s i).Line, (posAt s i).Col⟩]) else ([], posAt s i, (tokS (bSub s i s.size)).err) := by
        show (if s.size ≤ i then _ else _) = _
        rw [if_neg (by omega), if_neg hns, if_neg h2]
      rw [hstep]
      clear hstep h3
      repeat (first | refine byW ?_ | (refine byV ?_; intro w hw))
      refine lCall ?_
      refine (end_any s i hi hs hw).mono ?_
      clear hw
      rintro e w ⟨rfl, hw⟩
      refine ⟨_, rfl, ?_⟩
      obtain ⟨t, ht⟩ : ∃ t, t = bSub s i s.size := ⟨_, rfl⟩
      rw [← ht] at hsz hb0 hee ⊢
      have hsub : ∀ c d, c ≤ d → i + d ≤ s.size → bSub t c d = bSub s (i + c) (i + d) := fun c d _ h2 => by rw [ht]; exact sub_sub h2
      repeat (first | refine byW ?_ | (refine byV ?_; intro w hw))
      refine W_cond rfl (fun h4 => ?_) (fun h4 => ?_)
      · have h4 : endN t = 0 := by have := of_decide_eq_true h4; omega
        have hE := tok_end0 (t := t) (by omega) h4
        rw [hE, if_neg (by decide)]
        repeat (first | refine byW ?_ | (refine byV ?_; intro w hw))
        refine W_mixC [.own _ _ _ _, .blk b6 _] (.blk b3 _ :: S) [] [[],[],[0],[]] hw ?_
        repeat (first | refine mY ?_ | refine mP ?_ | refine mPg ?_)
        refine mStepX (φ := fun (_ : Unit) _ => True) (R := fun _ => .blk b3 (.cells (enc (⟨0, 0⟩ : PosT)).toArray 33) :: S) (v := undef) (T' := Unit) (fun _ _ => True) (fun _ => .blk b3 (.cells (enc (posAt s i)).toArray 33) :: S) (fun t' g w Y _ hw => s_store (i := 0) (inferInstance : TSz Tryz.prog 33 2).h hw rfl (v := .agg (enc (posAt s i)).toArray) rfl (vs := enc (posAt s i)) rfl rfl (fun u hu => (List.all_eq_true.1 (enc_one (posAt s i))) u hu) rfl (Nat.le_of_ble_eq_true rfl) fun w' hw' => ⟨(), trivial, fun _ => rfl, hw'⟩) ?_
        repeat (first | refine mY ?_ | refine mP ?_ | refine mPg ?_)
        refine mEndX fun t' w g _ hw => ?_
        have hw : Wd Γ (.blk b3 (.cells (enc (posAt s i)).toArray 33) :: S) w := Wd.left (S := .blk b3 _ :: S) hw
        repeat (first | refine byW ?_ | (refine byV ?_; intro w hw))
        exact ⟨[.slice none 0 0, .agg (enc (posAt s i)).toArray, .int .i64 50], ⟨rfl, resC (i := 0) hw rfl rfl rfl, rfl, trivial⟩, _, rfl, Wd.addNil hw.drop⟩
      have h4 : endN t ≠ 0 := by have := of_decide_eq_false h4; omega
      obtain ⟨kk, hkk⟩ : ∃ kk, kk = endN t := ⟨_, rfl⟩
      rw [← hkk] at h4 hee ⊢
      repeat (first | refine byW ?_ | (refine byV ?_; intro w hw))
      refine W_mixE 1 [[],[],[],[],[],[],[0],[0]] [[],[],[],[],[],[],[0],[0]] [[10]] ?_
      repeat (first | refine mY ?_ | refine mP ?_ | refine mEndAt ?_ | refine mEnd0 ?_ | refine mEnd ?_)
      refine mY (v := .agg #[.int .i64 4, .string (bSub s i (i + kk)), .int .u64 0, .int .i64 (posAt s i).Line, .int .i64 (posAt s i).Col]) ?_ (hy := fun Y w g hw => y_build rfl)
      refine mAlloc ?_
      refine mStoreAt ?_
      repeat (first | refine mY ?_ | refine mP ?_ | refine mEndAt ?_ | refine mEnd0 ?_ | refine mEnd ?_)
      intro b10 w hw
      have hw : Wd Γ (.blk b10 (.cells #[.int .i64 4, .string (bSub s i (i + kk)), .int .u64 0, .int .i64 (posAt s i).Line, .int .i64 (posAt s i).Col] 101) :: .own g 101 5 (toks.map enc) :: .blk b6 (.cells (enc (posAt s i)).toArray 33) :: .blk b3 (.cells (enc (⟨0, 0⟩ : PosT)).toArray 33) :: S) w := hw
      have hb34 := quote_nl
      repeat (first | refine byW ?_ | (refine byV ?_; intro w hw))
      refine W_cutB (fun ρ w => ∃ tk : Tok, (tokS t).err = 0 ∧ tk = ⟨(tokS t).kind, (tokS t).text, (tokS t).value, (posAt s i).Line, (posAt s i).Col⟩ ∧ (tokS t).n = kk ∧ Has ρ [(0, .string s), (3, .pointer (some ⟨b3, 0, none⟩)), (5, g), (6, .pointer (some ⟨b6, 0, none⟩)), (7, .int .i64 i), (9, .int .i64 ((i + kk : Nat) : Int)), (10, .pointer (some ⟨b10, 0, none⟩))] ∧ Wd Γ (.blk b10 (.cells (enc tk).toArray 101) :: .own g 101 5 (toks.map enc) :: .blk b6 (.cells (enc (posAt s i)).toArray 33) :: .blk b3 (.cells (enc (⟨0, 0⟩ : PosT)).toArray 33) :: S) w) ?_ ?_
      · refine W_cond rfl (fun h5 => ?_) (fun h5 => ?_)
        · have hT := tok_let (t := t) (by rw [hb0]; exact h5)
          rw [← hkk, hsub 0 kk (by omega) (by omega)] at hT
          repeat (first | refine byW ?_ | (refine byV ?_; intro w hw))
          refine lStore ?_
          intro w hw
          have hw : Wd Γ (.blk b10 (.cells #[.int .i64 1, .string (bSub s i (i + kk)), .int .u64 0, .int .i64 (posAt s i).Line, .int .i64 (posAt s i).Col] 101) :: .own g 101 5 (toks.map enc) :: .blk b6 (.cells (enc (posAt s i)).toArray 33) :: .blk b3 (.cells (enc (⟨0, 0⟩ : PosT)).toArray 33) :: S) w := hw
          repeat (first | refine byW ?_ | (refine byV ?_; intro w hw))
          rw [hT]
          exact ⟨⟨1, bSub s i (i + kk), 0, (posAt s i).Line, (posAt s i).Col⟩, rfl, rfl, rfl, ⟨rfl, rfl, rfl, rfl, rfl, rfl, rfl, trivial⟩, hw⟩
        have h5 : ¬ letterB (byteAt t 0) = true := by
          rw [hb0]
          have h5 : letterB (byteAt s i) = false := h5
          rw [h5]; decide
        repeat (first | refine byW ?_ | (refine byV ?_; intro w hw))
        refine W_cond rfl (fun h6 => ?_) (fun h6 => ?_)
        · have h6 : byteAt t 0 = 34 := by rw [hb0]; exact of_decide_eq_true h6
          have hT := tok_str h5 (by rw [h6]; exact hb34.2) h6 (by rw [← hkk]; exact h4)
          have hE := endN_34 h5 (by rw [h6]; exact hb34.2) h6
          have hk2 : 2 ≤ kk := by
            have h1s : 1 ≤ strN t := by unfold strN; omega
            rw [hkk] at h4 ⊢
            rw [hE] at h4 ⊢
            split
            · omega
            · rename_i q; rw [if_neg q] at h4; omega
          rw [← hkk, hsub 1 (kk - 1) (by omega) (by omega)] at hT
          repeat (first | refine byW ?_ | (refine byV ?_; intro w hw))
          refine lStore ?_
          intro w hw
          have hw : Wd Γ (.blk b10 (.cells #[.int .i64 3, .string (bSub s i (i + kk)), .int .u64 0, .int .i64 (posAt s i).Line, .int .i64 (posAt s i).Col] 101) :: .own g 101 5 (toks.map enc) :: .blk b6 (.cells (enc (posAt s i)).toArray 33) :: .blk b3 (.cells (enc (⟨0, 0⟩ : PosT)).toArray 33) :: S) w := hw
          repeat (first | refine byW ?_ | (refine byV ?_; intro w hw))
          refine lStore ?_
          intro w hw
          rw [show ((i : Int) + 1).toNat = i + 1 from by omega, show (((i + kk : Nat) : Int) - 1).toNat = i + (kk - 1) from by omega] at hw
          have hw : Wd Γ (.blk b10 (.cells #[.int .i64 3, .string (bSub s (i + 1) (i + (kk - 1))), .int .u64 0, .int .i64 (posAt s i).Line, .int .i64 (posAt s i).Col] 101) :: .own g 101 5 (toks.map enc) :: .blk b6 (.cells (enc (posAt s i)).toArray 33) :: .blk b3 (.cells (enc (⟨0, 0⟩ : PosT)).toArray 33) :: S) w := hw
          repeat (first | refine byW ?_ | (refine byV ?_; intro w hw))
          rw [hT]
          exact ⟨⟨3, bSub s (i + 1) (i + (kk - 1)), 0, (posAt s i).Line, (posAt s i).Col⟩, rfl, rfl, rfl, ⟨rfl, rfl, rfl, rfl, rfl, rfl, rfl, trivial⟩, hw⟩
        have h6 : ¬ byteAt t 0 = 34 := by rw [hb0]; exact of_decide_eq_false h6
        repeat (first | refine byW ?_ | (refine byV ?_; intro w hw))
        refine W_cond rfl (fun h7 => ?_) (fun h7 => ?_)
        · have hT := tok_dig h5 (by rw [hb0]; exact h7)
          rw [← hkk, hsub 0 kk (by omega) (by omega)] at hT
          repeat (first | refine byW ?_ | (refine byV ?_; intro w hw))
          refine lCall ?_
          refine (rnumber_any (bSub s i (i + kk)) (by rw [sub_size (by omega)]; omega) (by rw [sub_size (by omega)]; omega) hw).mono ?_
          clear hw
          rintro e w ⟨rfl, hw⟩
          refine ⟨_, rfl, ?_⟩
          rw [show i + 0 = i from rfl] at hT
          obtain ⟨N, hN⟩ : ∃ N, N = numS (bSub s i (i + kk)) := ⟨_, rfl⟩
          rw [← hN] at hT ⊢
          repeat (first | refine byW ?_ | (refine byV ?_; intro w hw))
          refine W_cond rfl (fun h8 => ?_) (fun h8 => ?_)
          · have h8 : ¬ N.2 = 0 := of_decide_eq_true h8
            rw [if_neg h8] at hT
            rw [hT]
            rw [show (tokErr N.2).err = N.2 from rfl, if_neg h8]
            repeat (first | refine byW ?_ | (refine byV ?_; intro w hw))
            have hw := hw.drop
            refine W_mixC [.own _ _ _ _, .blk b6 _] (.blk b3 _ :: S) [] [[],[],[],[0],[]] hw ?_
            repeat (first | refine mY ?_ | refine mP ?_ | refine mPg ?_)
            refine mStepX (φ := fun (_ : Unit) _ => True) (R := fun _ => .blk b3 (.cells (enc (⟨0, 0⟩ : PosT)).toArray 33) :: S) (v := undef) (T' := Unit) (fun _ _ => True) (fun _ => .blk b3 (.cells (enc (posAt s i)).toArray 33) :: S) (fun t' g w Y _ hw => s_store (i := 0) (inferInstance : TSz Tryz.prog 33 2).h hw rfl (v := .agg (enc (posAt s i)).toArray) rfl (vs := enc (posAt s i)) rfl rfl (fun u hu => (List.all_eq_true.1 (enc_one (posAt s i))) u hu) rfl (Nat.le_of_ble_eq_true rfl) fun w' hw' => ⟨(), trivial, fun _ => rfl, hw'⟩) ?_
            repeat (first | refine mY ?_ | refine mP ?_ | refine mPg ?_)
            refine mEndX fun t' w g _ hw => ?_
            have hw : Wd Γ (.blk b3 (.cells (enc (posAt s i)).toArray 33) :: S) w := Wd.left (S := .blk b3 _ :: S) hw
            repeat (first | refine byW ?_ | (refine byV ?_; intro w hw))
            exact ⟨[.slice none 0 0, .agg (enc (posAt s i)).toArray, .int .i64 N.2], ⟨rfl, resC (i := 0) hw rfl rfl rfl, rfl, trivial⟩, _, rfl, Wd.addNil hw.drop⟩
          · have h8 : N.2 = 0 := Classical.not_not.1 (of_decide_eq_false h8)
            rw [if_pos h8] at hT
            repeat (first | refine byW ?_ | (refine byV ?_; intro w hw))
            refine lStore ?_
            intro w hw
            refine L_nil ?_
            have hw : Wd Γ (.blk b10 (.cells #[.int .i64 2, .string (bSub s i (i + kk)), .int .u64 0, .int .i64 (posAt s i).Line, .int .i64 (posAt s i).Col] 101) :: .own g 101 5 (toks.map enc) :: .blk b6 (.cells (enc (posAt s i)).toArray 33) :: .blk b3 (.cells (enc (⟨0, 0⟩ : PosT)).toArray 33) :: S) w := hw
            repeat (first | refine byW ?_ | (refine byV ?_; intro w hw))
            refine lStore ?_
            intro w hw
            refine L_nil ?_
            have hw : Wd Γ (.blk b10 (.cells #[.int .i64 2, .string ⟨#[]⟩, .int .u64 0, .int .i64 (posAt s i).Line, .int .i64 (posAt s i).Col] 101) :: .own g 101 5 (toks.map enc) :: .blk b6 (.cells (enc (posAt s i)).toArray 33) :: .blk b3 (.cells (enc (⟨0, 0⟩ : PosT)).toArray 33) :: S) w := hw
            repeat (first | refine byW ?_ | (refine byV ?_; intro w hw))
            refine lStore ?_
            intro w hw
            refine L_nil ?_
            have hw : Wd Γ (.blk b10 (.cells #[.int .i64 2, .string ⟨#[]⟩, .int .u64 N.1, .int .i64 (posAt s i).Line, .int .i64 (posAt s i).Col] 101) :: .own g 101 5 (toks.map enc) :: .blk b6 (.cells (enc (posAt s i)).toArray 33) :: .blk b3 (.cells (enc (⟨0, 0⟩ : PosT)).toArray 33) :: S) w := hw
            rw [hT]
            exact ⟨⟨2, ⟨#[]⟩, N.1, (posAt s i).Line, (posAt s i).Col⟩, rfl, rfl, rfl, ⟨rfl, rfl, rfl, rfl, rfl, rfl, rfl, trivial⟩, hw⟩
        have h7 : ¬ digitB (byteAt t 0) = true := by
          rw [hb0]
          have h7 : digitB (byteAt s i) = false := h7
          rw [h7]; decide
        have hT := tok_pun h5 h7 h6 (by rw [← hkk]; exact h4)
        rw [← hkk, hsub 0 kk (by omega) (by omega)] at hT
        repeat (first | refine byW ?_ | (refine byV ?_; intro w hw))
        rw [hT]
        exact ⟨⟨4, bSub s i (i + kk), 0, (posAt s i).Line, (posAt s i).Col⟩, rfl, rfl, rfl, ⟨rfl, rfl, rfl, rfl, rfl, rfl, rfl, trivial⟩, hw⟩
      clear hw
      rintro ρ w ⟨tk, he, htk, htn, hρ, hw⟩
      rw [hρ.eq, he, if_pos rfl, htn]
      rw [← htk]
      clear hρ
      obtain ⟨ag, ng, cg, rfl, hng, hngc, hcg⟩ := hw.own_shape (i := 1) rfl
      simp only [List.length_map] at hng
      repeat (first | refine byW ?_ | (refine byV ?_; intro w hw))
      refine lBuildSlice [enc tk] ?_
      intro aN w hw
      refine lApp (i := 2) (rows2 := [enc tk]) ?_ (Wd.own_rd (i := 0) hw rfl)
      intro v' w hw
      repeat (first | refine byW ?_ | (refine byV ?_; intro w hw))
      have hw := hw.drop.drop
      have hw : Wd Γ (.own v' 101 5 ((toks ++ [tk]).map enc) :: .blk b6 (.cells (enc (posAt s i)).toArray 33) :: .blk b3 (.cells (enc (⟨0, 0⟩ : PosT)).toArray 33) :: S) w := by
        rw [List.map_append]; exact hw
      exact ⟨i + kk, v', toks ++ [tk], by omega, by omega, by simp; omega, rfl, ⟨rfl, rfl, rfl, rfl, rfl, rfl, trivial⟩, hw⟩
    clear hw
    rintro ρ w ⟨k, g, toks', hik, hks, htl', hN, hρ, hw⟩
    rw [hρ.eq, hN]
    clear hN hρ
    repeat (first | refine byW ?_ | (refine byV ?_; intro w hw))
    refine W_loop (fun μ ρ w => ∃ j : Nat, i ≤ j ∧ μ + j = k ∧ (posAt s j).Line ≤ 1 + j ∧ (posAt s j).Col ≤ 1 + j ∧ 0 ≤ (posAt s j).Line ∧ 0 ≤ (posAt s j).Col ∧ Has ρ [(0, .string s), (3, .pointer (some ⟨b3, 0, none⟩)), (5, g), (6, .pointer (some ⟨b6, 0, none⟩)), (7, .int .i64 j), (9, .int .i64 k)] ∧ Wd Γ (.own g 101 5 (toks'.map enc) :: .blk b6 (.cells (enc (posAt s j)).toArray 33) :: .blk b3 (.cells (enc (⟨0, 0⟩ : PosT)).toArray 33) :: S) w) (k - i) ⟨i, by omega, by omega, hl1, hc1, hl0, hc0, ⟨rfl, rfl, rfl, rfl, rfl, rfl, trivial⟩, hw⟩ ?_
    clear hw hl1 hc1 hl0 hc0
    rintro μ2 ρ w ⟨j, hij, hjk, hl1, hc1, hl0, hc0, hρ, hw⟩
    rw [hρ.eq]
    have hp1 : byteAt s j ≠ 10 → posAt s (j + 1) = ⟨(posAt s j).Line, (posAt s j).Col + 1⟩ := fun q => by
      have := posAt_run (s := s) (off := j) 1 (fun i hi => by rw [show j + i = j from by omega]; exact q)
      simpa using this
    have hp2 : byteAt s j = 10 → posAt s (j + 1) = ⟨(posAt s j).Line + 1, 1⟩ := posAt_nl
    repeat (first | refine byW ?_ | (refine byV ?_; intro w hw))
    refine W_cond rfl (fun h2 => ?_) (fun h2 => ?_)
    · have hlt : j < k := by have := of_decide_eq_true h2; omega
      repeat (first | refine byW ?_ | (refine byV ?_; intro w hw))
      refine lStore ?_
      intro w hw
      have hw : Wd Γ (.own g 101 5 (toks'.map enc) :: .blk b6 (.cells #[.int .i64 (posAt s j).Line, .int .i64 ((posAt s j).Col + 1)] 33) :: .blk b3 (.cells (enc (⟨0, 0⟩ : PosT)).toArray 33) :: S) w := hw
      repeat (first | refine byW ?_ | (refine byV ?_; intro w hw))
      refine W_cond rfl (fun h3 => ?_) (fun h3 => ?_)
      · have h3 : byteAt s j = 10 := of_decide_eq_true h3
        repeat (first | refine byW ?_ | (refine byV ?_; intro w hw))
        refine lStore ?_
        intro w hw
        have hw : Wd Γ (.own g 101 5 (toks'.map enc) :: .blk b6 (.cells (enc (posAt s (j + 1))).toArray 33) :: .blk b3 (.cells (enc (⟨0, 0⟩ : PosT)).toArray 33) :: S) w := by rw [hp2 h3]; exact hw
        repeat (first | refine byW ?_ | (refine byV ?_; intro w hw))
        exact ⟨μ2 - 1, by omega, j + 1, by omega, by omega, by rw [hp2 h3]; dsimp; omega, by rw [hp2 h3]; dsimp; omega, by rw [hp2 h3]; dsimp; omega, by rw [hp2 h3]; dsimp; omega, ⟨rfl, rfl, rfl, rfl, rfl, rfl, trivial⟩, hw⟩
      · have h3 : ¬ byteAt s j = 10 := of_decide_eq_false h3
        have hw : Wd Γ (.own g 101 5 (toks'.map enc) :: .blk b6 (.cells (enc (posAt s (j + 1))).toArray 33) :: .blk b3 (.cells (enc (⟨0, 0⟩ : PosT)).toArray 33) :: S) w := by rw [hp1 h3]; exact hw
        repeat (first | refine byW ?_ | (refine byV ?_; intro w hw))
        exact ⟨μ2 - 1, by omega, j + 1, by omega, by omega, by rw [hp1 h3]; dsimp; omega, by rw [hp1 h3]; dsimp; omega, by rw [hp1 h3]; dsimp; omega, by rw [hp1 h3]; dsimp; omega, ⟨rfl, rfl, rfl, rfl, rfl, rfl, trivial⟩, hw⟩
    · have hjk2 : j = k := by have := of_decide_eq_false h2; omega
      rw [hjk2] at hw hl1 hc1 hl0 hc0
      repeat (first | refine byW ?_ | (refine byV ?_; intro w hw))
      exact ⟨f, by omega, k, g, toks', hks, by omega, hl1, hc1, hl0, hc0, by omega, rfl, ⟨rfl, rfl, rfl, rfl, by show Value.int .i64 (j : Int) = _; rw [hjk2], trivial⟩, hw⟩
  · have h1 : ¬ i < s.size := by simpa using h1
    have hend : scanN s (f + 1) i toks = (toks, ⟨0, 0⟩, 0) := by
      show (if s.size ≤ i then _ else _) = _
      rw [if_pos (by omega)]
    rw [hend]
    repeat (first | refine byW ?_ | (refine byV ?_; intro w hw))
    refine lStore ?_
    intro w hw
    have hw : Wd Γ (.own g 101 5 (toks.map enc) :: .blk b6 (.cells (enc (posAt s i)).toArray 33) :: .blk b3 (.cells (enc (⟨0, 0⟩ : PosT)).toArray 33) :: S) w := hw
    repeat (first | refine byW ?_ | (refine byV ?_; intro w hw))
    exact ⟨[g, .agg (enc (⟨0, 0⟩ : PosT)).toArray, .int .i64 0], ⟨rfl, resC (i := 2) hw rfl rfl rfl, rfl, trivial⟩, _, rfl, (hw.dropAt 2).dropAt 1⟩
end Go.Proofs.YtmjkacgmepbljaaGreatDoor
end
/- The reference's parser: its state, looking at tokens, failing. -/
section
open Go Mk
namespace Go.Proofs.YtmjkacgmepbljaaGreatDoor
set_option maxHeartbeats 8000000
attribute [local irreducible] Calls posAt

/-- The state of the reference's parser: the next token, the position and the error. -/
structure RS where
  I : Nat
  p : PosT
  er : Int
def rpB (bp : Nat) (s : ByteArray) (a : Option Addr) (n c : Nat) (σ : RS) : Res := .blk bp (.cells #[.string s, .slice a n c, .int .i64 σ.I, .int .i64 σ.p.Line, .int .i64 σ.p.Col, .int .i64 σ.er] 73)
section
variable {Γ : Gho} {S : List Res} {w : World} {bp : Nat} {s : ByteArray} {a : Option Addr} {n c : Nat} {σ : RS} {toks : List Tok}
instance ps_OK : PS Tryz.prog Γ (rpB bp s a n c σ :: S) 42 [.pointer (some ⟨bp, 0, none⟩)] (.bool (decide (σ.er = 0))) := ⟨fun Y w hw => by
  refine calls_of_W Tryz.func42 rfl rfl ?_
  repeat (first | refine byW ?_ | (refine byV ?_; intro w hw))
  exact ⟨_, rfl, rfl, hw⟩⟩
instance ps_Done : PS Tryz.prog Γ (rpB bp s a n c σ :: S) 43 [.pointer (some ⟨bp, 0, none⟩)] (.bool (decide ((n : Int) ≤ σ.I))) := ⟨fun Y w hw => by
  refine calls_of_W Tryz.func43 rfl rfl ?_
  repeat (first | refine byW ?_ | (refine byV ?_; intro w hw))
  refine W_quiet (by kernel_rfl) (by kernel_rfl) hw ?_
  repeat (first | refine Q_nil ?_ | (apply Q_plain; first | (apply Q_go; first | refine qP ?_ | refine qPg ?_) | refine qY ?_) | (apply Q_guarded; first | (apply Q_go; first | refine qPG ?_ | refine qPgG ?_) | refine qG ?_))
  intro w hw
  repeat (first | refine byW ?_ | (refine byV ?_; intro w hw))
  exact ⟨_, rfl, rfl, hw⟩⟩
theorem kind_key (toks : List Tok) (hn : n = toks.length) {t : Tok} (htk : σ.I < n → toks[σ.I]? = some t) (kind : Int) : ((decide (σ.er = 0) && !decide ((n : Int) ≤ σ.I)) && decide (t.Kind = kind)) = (decide (σ.er = 0) && kindS toks σ.I kind) := by
  unfold kindS
  by_cases h : σ.I < n
  · rw [htk h]
    have h1 : ¬ (n : Int) ≤ σ.I := by omega
    simp [h1]
  · rw [List.getElem?_eq_none (by omega)]
    have h1 : (n : Int) ≤ σ.I := by omega
    simp [h1]
theorem peek_key (toks : List Tok) (hn : n = toks.length) {t : Tok} (htk : σ.I < n → toks[σ.I]? = some t) (kind : Int) (text : ByteArray) : (((decide (σ.er = 0) && !decide ((n : Int) ≤ σ.I)) && decide (t.Kind = kind)) && decide (t.Text = text)) = (decide (σ.er = 0) && isS toks σ.I kind text) := by
  unfold isS
  by_cases h : σ.I < n
  · rw [htk h]
    have h1 : ¬ (n : Int) ≤ σ.I := by omega
    simp [h1, Bool.and_assoc]
  · rw [List.getElem?_eq_none (by omega)]
    have h1 : (n : Int) ≤ σ.I := by omega
    simp [h1]
theorem guard_lt {b : Bool} {I n : Nat} (h : (b && !decide ((n : Int) ≤ I)) = true) : I < n := by
  simp only [Bool.and_eq_true, Bool.not_eq_true', decide_eq_false_iff_not] at h; omega
instance ps_Kind [ht : RTok Γ a n c toks] (kind : Int) : PS Tryz.prog Γ (rpB bp s a n c σ :: S) 84 [.pointer (some ⟨bp, 0, none⟩), .int .i64 kind] (.bool (decide (σ.er = 0) && kindS toks σ.I kind)) := ⟨fun Y w hw => by
  obtain ⟨hn, hnc, hc⟩ := ht.len
  have hr := ht.h
  have hw : Wd Γ (rpB bp s a n c σ :: (S ++ Y)) w := hw
  refine calls_of_W Tryz.func84 rfl rfl ?_
  repeat (first | refine byW ?_ | (refine byV ?_; intro w hw))
  obtain ⟨t, htk⟩ : ∃ t : Tok, σ.I < n → toks[σ.I]? = some t := by
    by_cases h : σ.I < n
    · obtain ⟨t, ht⟩ := get_lt (l := toks) (k := σ.I) (by omega); exact ⟨t, fun _ => ht⟩
    · exact ⟨default, fun hh => absurd hh h⟩
  refine W_quiet (by kernel_rfl) (by kernel_rfl) hw ?_
  iterate 18 (first | (first | refine Q_nil ?_ | (apply Q_plain; first | (apply Q_go; first | refine qP ?_ | refine qPg ?_) | refine qY ?_) | (apply Q_guarded; first | (apply Q_go; first | refine qPG ?_ | refine qPgG ?_) | refine qG ?_)) | (apply Q_plain; apply Q_go; refine qPs ?_) | (apply Q_guarded; apply Q_go; refine qPsG ?_))
  apply Q_guarded
  refine qG ?_ (hy := fun hc w hw => by
    have h0 := htk (guard_lt hc)
    exact byPUG)
  repeat (first | (first | refine Q_nil ?_ | (apply Q_plain; first | (apply Q_go; first | refine qP ?_ | refine qPg ?_) | refine qY ?_) | (apply Q_guarded; first | (apply Q_go; first | refine qPG ?_ | refine qPgG ?_) | refine qG ?_)) | (apply Q_plain; apply Q_go; refine qPs ?_) | (apply Q_guarded; apply Q_go; refine qPsG ?_))
  intro w hw
  repeat (first | refine byW ?_ | (refine byV ?_; intro w hw))
  exact ⟨_, rfl, ret_b rfl (kind_key toks hn htk kind), hw⟩⟩
instance ps_Peek [ht : RTok Γ a n c toks] (kind : Int) (text : ByteArray) : PS Tryz.prog Γ (rpB bp s a n c σ :: S) 47 [.pointer (some ⟨bp, 0, none⟩), .int .i64 kind, .string text] (.bool (decide (σ.er = 0) && isS toks σ.I kind text)) := ⟨fun Y w hw => by
  obtain ⟨hn, hnc, hc⟩ := ht.len
  have hr := ht.h
  have hw : Wd Γ (rpB bp s a n c σ :: (S ++ Y)) w := hw
  refine calls_of_W Tryz.func47 rfl rfl ?_
  repeat (first | refine byW ?_ | (refine byV ?_; intro w hw))
  obtain ⟨t, htk⟩ : ∃ t : Tok, σ.I < n → toks[σ.I]? = some t := by
    by_cases h : σ.I < n
    · obtain ⟨t, ht⟩ := get_lt (l := toks) (k := σ.I) (by omega); exact ⟨t, fun _ => ht⟩
    · exact ⟨default, fun hh => absurd hh h⟩
  refine W_quiet (by kernel_rfl) (by kernel_rfl) hw ?_
  iterate 18 (first | (first | refine Q_nil ?_ | (apply Q_plain; first | (apply Q_go; first | refine qP ?_ | refine qPg ?_) | refine qY ?_) | (apply Q_guarded; first | (apply Q_go; first | refine qPG ?_ | refine qPgG ?_) | refine qG ?_)) | (apply Q_plain; apply Q_go; refine qPs ?_) | (apply Q_guarded; apply Q_go; refine qPsG ?_))
  apply Q_guarded
  refine qG ?_ (hy := fun hc w hw => by
    have h0 := htk (guard_lt hc)
    exact byPUG)
  iterate 14 (first | (first | refine Q_nil ?_ | (apply Q_plain; first | (apply Q_go; first | refine qP ?_ | refine qPg ?_) | refine qY ?_) | (apply Q_guarded; first | (apply Q_go; first | refine qPG ?_ | refine qPgG ?_) | refine qG ?_)) | (apply Q_plain; apply Q_go; refine qPs ?_) | (apply Q_guarded; apply Q_go; refine qPsG ?_))
  apply Q_guarded
  refine qG ?_ (hy := fun hc w hw => by
    have h0 := htk (guard_lt (andL hc))
    exact byPUG)
  repeat (first | (first | refine Q_nil ?_ | (apply Q_plain; first | (apply Q_go; first | refine qP ?_ | refine qPg ?_) | refine qY ?_) | (apply Q_guarded; first | (apply Q_go; first | refine qPG ?_ | refine qPgG ?_) | refine qG ?_)) | (apply Q_plain; apply Q_go; refine qPs ?_) | (apply Q_guarded; apply Q_go; refine qPsG ?_))
  intro w hw
  repeat (first | refine byW ?_ | (refine byV ?_; intro w hw))
  exact ⟨_, rfl, ret_b rfl (peek_key toks hn htk kind text), hw⟩⟩
instance pg_At [hs : SZ s] : PG Tryz.prog Γ 83 [.string s, .int .i64 s.size] (.agg (enc (endP s)).toArray) := ⟨fun S w hw => At_any s s.size (Nat.le_refl _) hs.h hw⟩
/-- An error is kept, if there is none yet. -/
def failS (toks : List Tok) (e : PosT) (σ : RS) (i : Nat) (er : Int) : RS := if σ.er = 0 then ⟨σ.I, posOf toks i e, er⟩ else σ
theorem Fail_any [ht : RTok Γ a n c toks] [hs : SZ s] (i : Int) (j : Nat) (er : Int) (hi : σ.er = 0 → i = j) (hw : Wd Γ (rpB bp s a n c σ :: S) w) :
    Calls Tryz.prog 45 #[.pointer (some ⟨bp, 0, none⟩), .int .i64 i, .int .i64 er] w fun r w' => r = .returned (.tuple #[]) ∧ Wd Γ (rpB bp s a n c (failS toks (endP s) σ j er) :: S) w' := by
  obtain ⟨hn, hnc, hc⟩ := ht.len
  have hr := ht.h
  refine calls_of_W Tryz.func45 rfl rfl ?_
  repeat (first | refine byW ?_ | (refine byV ?_; intro w hw) | (apply L_plain; apply L_go; refine lPs ?_; intro w hw) | (apply L_guarded; apply L_go; refine lPsG ?_; intro w hw))
  refine W_cond rfl (fun h => ?_) (fun h => ?_)
  · have h : σ.er ≠ 0 := by simpa using h
    have hE : failS toks (endP s) σ j er = σ := by unfold failS; rw [if_neg h]
    rw [hE]
    repeat (first | refine byW ?_ | (refine byV ?_; intro w hw))
    exact ⟨_, rfl, rfl, hw⟩
  have h : σ.er = 0 := by simpa using h
  have hi := hi h
  subst hi
  have hE : failS toks (endP s) σ j er = ⟨σ.I, posOf toks j (endP s), er⟩ := by unfold failS; rw [if_pos h]
  rw [hE]
  repeat (first | refine byW ?_ | (refine byV ?_; intro w hw))
  refine lStore ?_
  intro w hw
  have hw : Wd Γ (rpB bp s a n c ⟨σ.I, σ.p, er⟩ :: S) w := hw
  repeat (first | refine byW ?_ | (refine byV ?_; intro w hw))
  refine W_mix1 [] (rpB bp s a n c ⟨σ.I, σ.p, er⟩ :: S) [[],[],[],[],[],[],[],[],[],[],[],[],[],[0]] [[],[],[],[],[0],[],[],[],[0],[],[],[],[],[0]] hw ?_
  repeat (first | refine mY ?_ | refine mP ?_ | refine mPg ?_)
  refine mStoreC ?_
  refine mEnd fun w g hw => ?_
  have hw : Wd Γ ((rpB bp s a n c ⟨σ.I, endP s, er⟩ :: S) ++ []) w := hw
  rw [List.append_nil] at hw
  repeat (first | refine byW ?_ | (refine byV ?_; intro w hw))
  refine W_cond rfl (fun h2 => ?_) (fun h2 => ?_)
  · have h2 : j < n := by have := of_decide_eq_true h2; omega
    obtain ⟨t, htk⟩ := get_lt (l := toks) (k := j) (by omega)
    have hp : posOf toks j (endP s) = ⟨t.Line, t.Col⟩ := by unfold posOf; rw [htk]
    rw [hp]
    repeat (first | refine byW ?_ | (refine byV ?_; intro w hw))
    refine lStore ?_
    intro w hw
    have hw : Wd Γ (rpB bp s a n c ⟨σ.I, ⟨t.Line, t.Col⟩, er⟩ :: S) w := hw
    repeat (first | refine byW ?_ | (refine byV ?_; intro w hw))
    exact ⟨_, rfl, rfl, hw⟩
  · have h2 : ¬ j < n := by have := of_decide_eq_false h2; omega
    have hp : posOf toks j (endP s) = endP s := by unfold posOf; rw [List.getElem?_eq_none (by omega)]
    rw [hp]
    repeat (first | refine byW ?_ | (refine byV ?_; intro w hw))
    exact ⟨_, rfl, rfl, hw⟩
end
end Go.Proofs.YtmjkacgmepbljaaGreatDoor
end
/- The reference's parser: reading tokens. -/
section
open Go Mk
namespace Go.Proofs.YtmjkacgmepbljaaGreatDoor
set_option maxHeartbeats 8000000
attribute [local irreducible] Calls posAt endP

def takeS (toks : List Tok) (σ : RS) (kind : Int) (text : ByteArray) : RS := if (decide (σ.er = 0) && isS toks σ.I kind text) = true then ⟨σ.I + 1, σ.p, σ.er⟩ else σ
def needS (toks : List Tok) (e : PosT) (σ : RS) (kind : Int) (text : ByteArray) : RS := if (decide (σ.er = 0) && isS toks σ.I kind text) = true then ⟨σ.I + 1, σ.p, σ.er⟩ else failS toks e σ σ.I 50
def anyS (toks : List Tok) (e : PosT) (σ : RS) (kind : Int) : Tok × RS := if (decide (σ.er = 0) && kindS toks σ.I kind) = true then ((toks[σ.I]?).getD default, ⟨σ.I + 1, σ.p, σ.er⟩) else (default, failS toks e σ σ.I 50)
def nameR (toks : List Tok) (e : PosT) (σ : RS) (kind : Int) : ByteArray × RS := ((anyS toks e σ kind).1.Text, if 24 < (anyS toks e σ kind).1.Text.size then failS toks e (anyS toks e σ kind).2 ((anyS toks e σ kind).2.I - 1) 63 else (anyS toks e σ kind).2)
def intR (toks : List Tok) (e : PosT) (σ : RS) : Int × RS := if 2147483647 < (anyS toks e σ 2).1.Value then (0, failS toks e (anyS toks e σ 2).2 ((anyS toks e σ 2).2.I - 1) 6) else (IntKind.i64.wrap (anyS toks e σ 2).1.Value, (anyS toks e σ 2).2)
theorem failS_I {toks : List Tok} {e : PosT} {σ : RS} {i : Nat} {er : Int} : (failS toks e σ i er).I = σ.I := by unfold failS; split <;> rfl
theorem kindS_lt {toks : List Tok} {k : Nat} {kind : Int} (h : kindS toks k kind = true) : k < toks.length := by
  unfold kindS at h
  by_cases hk : k < toks.length
  · exact hk
  · rw [List.getElem?_eq_none (by omega)] at h; cases h
section
variable {Γ : Gho} {S : List Res} {w : World} {bp : Nat} {s : ByteArray} {a : Option Addr} {n c : Nat} {σ : RS} {toks : List Tok}
theorem needS_I {e : PosT} {kind : Int} {text : ByteArray} (h : σ.I ≤ toks.length) : (needS toks e σ kind text).I ≤ toks.length := by
  unfold needS
  split
  · rename_i q
    have := isS_lt (andR q)
    exact this
  · rw [failS_I]; exact h
theorem anyS_I {e : PosT} {kind : Int} (h : σ.I ≤ toks.length) : (anyS toks e σ kind).2.I ≤ toks.length := by
  unfold anyS
  split
  · rename_i q
    have := kindS_lt (andR q)
    exact this
  · show (failS toks e σ σ.I 50).I ≤ _
    rw [failS_I]; exact h
theorem Take_any [ht : RTok Γ a n c toks] (kind : Int) (text : ByteArray) (hw : Wd Γ (rpB bp s a n c σ :: S) w) :
    Calls Tryz.prog 49 #[.pointer (some ⟨bp, 0, none⟩), .int .i64 kind, .string text] w fun r w' => r = .returned (.bool (decide (σ.er = 0) && isS toks σ.I kind text)) ∧ Wd Γ (rpB bp s a n c (takeS toks σ kind text) :: S) w' := by
  obtain ⟨hn, hnc, hc⟩ := ht.len
  have hbig := ht.big
  refine calls_of_W Tryz.func49 rfl rfl ?_
  repeat (first | refine byW ?_ | (refine byV ?_; intro w hw) | (apply L_plain; apply L_go; refine lPs ?_; intro w hw) | (apply L_guarded; apply L_go; refine lPsG ?_; intro w hw))
  refine W_cond rfl (fun h => ?_) (fun h => ?_)
  · have hE : takeS toks σ kind text = ⟨σ.I + 1, σ.p, σ.er⟩ := by unfold takeS; rw [if_pos h]
    have hlt := isS_lt (andR h)
    rw [hE]
    repeat (first | refine byW ?_ | (refine byV ?_; intro w hw))
    refine lStore ?_
    intro w hw
    have hw : Wd Γ (rpB bp s a n c ⟨σ.I + 1, σ.p, σ.er⟩ :: S) w := hw
    repeat (first | refine byW ?_ | (refine byV ?_; intro w hw))
    exact ⟨_, rfl, by rw [h]; rfl, hw⟩
  · have hE : takeS toks σ kind text = σ := by unfold takeS; rw [if_neg (by rw [h]; decide)]
    rw [hE]
    repeat (first | refine byW ?_ | (refine byV ?_; intro w hw))
    exact ⟨_, rfl, by rw [h]; rfl, hw⟩
theorem Need_any [ht : RTok Γ a n c toks] [hs : SZ s] (kind : Int) (text : ByteArray) (hw : Wd Γ (rpB bp s a n c σ :: S) w) :
    Calls Tryz.prog 46 #[.pointer (some ⟨bp, 0, none⟩), .int .i64 kind, .string text] w fun r w' => r = .returned (.tuple #[]) ∧ Wd Γ (rpB bp s a n c (needS toks (endP s) σ kind text) :: S) w' := by
  obtain ⟨hn, hnc, hc⟩ := ht.len
  have hbig := ht.big
  refine calls_of_W Tryz.func46 rfl rfl ?_
  repeat (first | refine byW ?_ | (refine byV ?_; intro w hw))
  refine lCall ?_
  refine (Take_any kind text hw).mono ?_
  clear hw
  rintro r w ⟨rfl, hw⟩
  refine ⟨_, rfl, ?_⟩
  repeat (first | refine byW ?_ | (refine byV ?_; intro w hw))
  refine W_cond rfl (fun h => ?_) (fun h => ?_)
  · have h : (decide (σ.er = 0) && isS toks σ.I kind text) = false := by rw [← Bool.not_eq_true']; exact h
    have hE : takeS toks σ kind text = σ := by unfold takeS; rw [if_neg (by rw [h]; decide)]
    have hE2 : needS toks (endP s) σ kind text = failS toks (endP s) σ σ.I 50 := by unfold needS; rw [if_neg (by rw [h]; decide)]
    rw [hE] at hw
    rw [hE2]
    repeat (first | refine byW ?_ | (refine byV ?_; intro w hw))
    refine lCall ?_
    refine (Fail_any (σ.I : Int) σ.I 50 (fun _ => rfl) hw).mono ?_
    clear hw
    rintro r w ⟨rfl, hw⟩
    refine ⟨_, rfl, ?_⟩
    repeat (first | refine byW ?_ | (refine byV ?_; intro w hw))
    exact ⟨_, rfl, rfl, hw⟩
  · have h : (decide (σ.er = 0) && isS toks σ.I kind text) = true := by rw [← Bool.not_eq_false']; exact h
    have hE : takeS toks σ kind text = ⟨σ.I + 1, σ.p, σ.er⟩ := by unfold takeS; rw [if_pos h]
    have hE2 : needS toks (endP s) σ kind text = ⟨σ.I + 1, σ.p, σ.er⟩ := by unfold needS; rw [if_pos h]
    rw [hE] at hw
    rw [hE2]
    repeat (first | refine byW ?_ | (refine byV ?_; intro w hw))
    exact ⟨_, rfl, rfl, hw⟩
theorem Any_any [ht : RTok Γ a n c toks] [hs : SZ s] (kind : Int) (hI : σ.I ≤ n) (hw : Wd Γ (rpB bp s a n c σ :: S) w) :
    Calls Tryz.prog 82 #[.pointer (some ⟨bp, 0, none⟩), .int .i64 kind] w fun r w' => r = .returned (.agg (enc (anyS toks (endP s) σ kind).1).toArray) ∧ Wd Γ (rpB bp s a n c (anyS toks (endP s) σ kind).2 :: S) w' := by
  obtain ⟨hn, hnc, hc⟩ := ht.len
  have hbig := ht.big
  have hr := ht.h
  refine calls_of_WC Tryz.func82 rfl rfl ?_
  repeat (first | refine byW ?_ | (refine byV ?_; intro w hw))
  refine lAlloc ?_
  intro b4 w hw
  have hw := hw.ps [1]
  have hw : Wd Γ (rpB bp s a n c σ :: .blk b4 (.cells (enc (default : Tok)).toArray 101) :: S) w := hw
  repeat (first | refine byW ?_ | (refine byV ?_; intro w hw) | (apply L_plain; apply L_go; refine lPs ?_; intro w hw) | (apply L_guarded; apply L_go; refine lPsG ?_; intro w hw))
  refine W_cond rfl (fun h => ?_) (fun h => ?_)
  · have h : (decide (σ.er = 0) && kindS toks σ.I kind) = false := by rw [← Bool.not_eq_true']; exact h
    have hE : anyS toks (endP s) σ kind = (default, failS toks (endP s) σ σ.I 50) := by unfold anyS; rw [if_neg (by rw [h]; decide)]
    rw [hE]
    repeat (first | refine byW ?_ | (refine byV ?_; intro w hw))
    refine lCall ?_
    refine (Fail_any (σ.I : Int) σ.I 50 (fun _ => rfl) hw).mono ?_
    clear hw
    rintro r w ⟨rfl, hw⟩
    refine ⟨_, rfl, ?_⟩
    repeat (first | refine byW ?_ | (refine byV ?_; intro w hw))
    refine lStore (i := 1) ?_
    intro w hw
    have hw : Wd Γ (rpB bp s a n c (failS toks (endP s) σ σ.I 50) :: .blk b4 (.cells (enc (default : Tok)).toArray 101) :: S) w := hw
    repeat (first | refine byW ?_ | (refine byV ?_; intro w hw))
    exact ⟨[.agg (enc (default : Tok)).toArray], ⟨resC (i := 1) hw rfl rfl rfl, trivial⟩, rfl, hw.dropAt 1⟩
  · have h : (decide (σ.er = 0) && kindS toks σ.I kind) = true := by rw [← Bool.not_eq_false']; exact h
    have hlt := kindS_lt (andR h)
    obtain ⟨t, htk⟩ := get_lt (l := toks) (k := σ.I) (by omega)
    have hE : anyS toks (endP s) σ kind = (t, ⟨σ.I + 1, σ.p, σ.er⟩) := by unfold anyS; rw [if_pos h, htk]; rfl
    rw [hE]
    repeat (first | refine byW ?_ | (refine byV ?_; intro w hw))
    refine lStore ?_
    intro w hw
    have hw : Wd Γ (rpB bp s a n c ⟨σ.I + 1, σ.p, σ.er⟩ :: .blk b4 (.cells (enc (default : Tok)).toArray 101) :: S) w := hw
    repeat (first | refine byW ?_ | (refine byV ?_; intro w hw))
    refine W_mix1 [.blk bp (.cells #[.string s, .slice a n c, .int .i64 ((σ.I + 1 : Nat) : Int), .int .i64 σ.p.Line, .int .i64 σ.p.Col, .int .i64 σ.er] 73)] (.blk b4 (.cells (enc (default : Tok)).toArray 101) :: S) [[],[],[],[],[],[],[],[],[],[],[],[0]] [[],[],[],[],[],[],[],[],[],[],[],[0]] hw ?_
    have htk2 : toks[(((σ.I + 1 : Nat) : Int) - 1).toNat]? = some t := by rw [show (((σ.I + 1 : Nat) : Int) - 1).toNat = σ.I from by omega]; exact htk
    repeat (first | refine mY ?_ | refine mP ?_ | refine mPg ?_)
    refine mStoreC ?_
    refine mEnd fun w g hw => ?_
    have hw := Wd.dropEnd (C := []) hw
    have hw : Wd Γ (rpB bp s a n c ⟨σ.I + 1, σ.p, σ.er⟩ :: .blk b4 (.cells (enc t).toArray 101) :: S) w := hw
    repeat (first | refine byW ?_ | (refine byV ?_; intro w hw))
    exact ⟨[.agg (enc t).toArray], ⟨resC (i := 1) hw rfl rfl rfl, trivial⟩, rfl, hw.dropAt 1⟩
theorem Name_any [ht : RTok Γ a n c toks] [hs : SZ s] (kind : Int) (hI : σ.I ≤ n) (hw : Wd Γ (rpB bp s a n c σ :: S) w) :
    Calls Tryz.prog 44 #[.pointer (some ⟨bp, 0, none⟩), .int .i64 kind] w fun r w' => r = .returned (.string (nameR toks (endP s) σ kind).1) ∧ Wd Γ (rpB bp s a n c (nameR toks (endP s) σ kind).2 :: S) w' := by
  obtain ⟨hn, hnc, hc⟩ := ht.len
  have hbig := ht.big
  refine calls_of_W Tryz.func44 rfl rfl ?_
  repeat (first | refine byW ?_ | (refine byV ?_; intro w hw))
  refine lCall ?_
  refine (Any_any kind hI hw).mono ?_
  clear hw
  rintro r w ⟨rfl, hw⟩
  refine ⟨_, rfl, ?_⟩
  have hI2 := anyS_I (toks := toks) (e := endP s) (kind := kind) (σ := σ) (by omega)
  have hI3 : (anyS toks (endP s) σ kind).2.er = 0 → 1 ≤ (anyS toks (endP s) σ kind).2.I := fun h0 => by
    unfold anyS at h0 ⊢
    split
    · show 1 ≤ σ.I + 1; omega
    · rename_i q
      rw [if_neg q] at h0
      exfalso
      unfold failS at h0
      split at h0
      · exact absurd h0 (show ¬ (50 : Int) = 0 by decide)
      · contradiction
  unfold nameR
  generalize anyS toks (endP s) σ kind = q at *
  obtain ⟨t, τ⟩ := q
  refine lAlloc ?_
  intro b5 w hw
  refine lStore (i := 0) ?_
  intro w hw
  have hw := hw.ps [1]
  have hw : Wd Γ (rpB bp s a n c τ :: .blk b5 (.cells (enc t).toArray 101) :: S) w := hw
  dsimp only at hI2 hI3 ⊢
  repeat (first | refine byW ?_ | (refine byV ?_; intro w hw))
  refine W_cutT (fun ρ w => Has ρ [(5, .pointer (some ⟨b5, 0, none⟩))] ∧ Wd Γ (rpB bp s a n c (if 24 < t.Text.size then failS toks (endP s) τ (τ.I - 1) 63 else τ) :: .blk b5 (.cells (enc t).toArray 101) :: S) w) ?_ ?_
  · refine W_cond rfl (fun h => ?_) (fun h => ?_)
    · have h : 24 < t.Text.size := by have := of_decide_eq_true h; omega
      rw [if_pos h]
      repeat (first | refine byW ?_ | (refine byV ?_; intro w hw))
      refine lCall ?_
      refine (Fail_any ((τ.I : Int) - 1) (τ.I - 1) 63 (fun h0 => by have := hI3 h0; omega) hw).mono ?_
      clear hw
      rintro r w ⟨rfl, hw⟩
      refine ⟨_, rfl, ?_⟩
      repeat (first | refine byW ?_ | (refine byV ?_; intro w hw))
      exact ⟨⟨rfl, trivial⟩, hw⟩
    · have h : ¬ 24 < t.Text.size := by have := of_decide_eq_false h; omega
      rw [if_neg h]
      repeat (first | refine byW ?_ | (refine byV ?_; intro w hw))
      exact ⟨⟨rfl, trivial⟩, hw⟩
  clear hw
  rintro ρ w ⟨hρ, hw⟩
  rw [hρ.eq]
  repeat (first | refine byW ?_ | (refine byV ?_; intro w hw))
  exact ⟨_, rfl, rfl, hw.dropAt 1⟩
end
end Go.Proofs.YtmjkacgmepbljaaGreatDoor
end
/- The reference's parser: Open; readings as the program's. -/
section
open Go Mk
namespace Go.Proofs.YtmjkacgmepbljaaGreatDoor
set_option maxHeartbeats 16000000
attribute [local irreducible] Calls posAt endP scanS

theorem nextP_ok {toks : List Tok} {e : PosT} {kind : Int} {k : Nat} (h : kindS toks k kind = true) : ∃ t, toks[k]? = some t ∧ nextP toks e kind k = .ok (t, k) := by
  unfold kindS at h
  cases hg : toks[k]? with
  | none => rw [hg] at h; cases h
  | some t =>
    rw [hg] at h
    refine ⟨t, rfl, ?_⟩
    unfold nextP
    rw [hg]
    exact if_pos (of_decide_eq_true h)
theorem nextP_bad {toks : List Tok} {e : PosT} {kind : Int} {k : Nat} (h : kindS toks k kind = false) : nextP toks e kind k = .error (posOf toks k e, 50) := by
  unfold kindS at h
  unfold nextP
  cases hg : toks[k]? with
  | none => rfl
  | some t =>
    rw [hg] at h
    exact if_neg (of_decide_eq_false h)
theorem numberP_bad {toks : List Tok} {e : PosT} {lim : Bool} {k : Nat} (h : kindS toks k 2 = false) : numberP toks e lim k = .error (posOf toks k e, 50) := by
  unfold numberP; rw [nextP_bad h]
theorem numberP_of {toks : List Tok} {e : PosT} {lim : Bool} {k : Nat} {t : Tok} (h : nextP toks e 2 k = .ok (t, k)) : numberP toks e lim k = if lim = true ∧ 2147483647 < t.Value then .error (posOf toks k e, 6) else .ok (t.Value, k + 1) := by
  unfold numberP; rw [h]
/-- The state after a reading. -/
def StE {α : Type} : PR α → RS → Prop
  | .ok (_, k), τ => τ.er = 0 ∧ τ.I = k
  | .error (p, er), τ => τ.p = p ∧ τ.er = er ∧ er ≠ 0
theorem expect_eq {toks : List Tok} {e : PosT} {kind : Int} {text : ByteArray} {k : Nat} : expectP toks e kind text k = if isS toks k kind text = true then .ok ((), k + 1) else .error (posOf toks k e, 50) := rfl
theorem needS_er {toks : List Tok} {e : PosT} {τ : RS} {kind : Int} {text : ByteArray} (h : τ.er ≠ 0) : needS toks e τ kind text = τ := by
  unfold needS failS
  rw [if_neg (by simp [h]), if_neg h]
theorem needS_st {toks : List Tok} {e : PosT} {τ : RS} {kind : Int} {text : ByteArray} (h : τ.er = 0) : StE (expectP toks e kind text τ.I) (needS toks e τ kind text) := by
  rw [expect_eq]
  unfold needS failS
  by_cases hi : isS toks τ.I kind text = true
  · rw [if_pos hi, if_pos (by simp [h, hi])]
    exact ⟨h, rfl⟩
  · rw [if_neg hi, if_neg (by simp [hi]), if_pos h]
    exact ⟨rfl, rfl, by decide⟩
theorem Open_any {Γ : Gho} {S : List Res} {w : World} (s : ByteArray) (hs : s.size ≤ 4611686018427387904) (hw : Wd Γ S w) :
    Calls Tryz.prog 41 #[.string s] w fun e w' => ∃ (Γ' : Gho) (bp : Nat) (a : Option Addr) (n c : Nat), Γ.le Γ' ∧ e = .returned (.pointer (some ⟨bp, 0, none⟩)) ∧ RTok Γ' a n c (scanS s).1 ∧ Wd Γ' (rpB bp s a n c ⟨0, (scanS s).2.1, (scanS s).2.2⟩ :: S) w' := by
  refine calls_of_W Tryz.func41 rfl rfl ?_
  repeat (first | refine byW ?_ | (refine byV ?_; intro w hw))
  refine lCall ?_
  refine (RScan_any Γ S w s hs hw).mono ?_
  clear hw
  rintro r w ⟨v, rfl, hw⟩
  refine ⟨_, rfl, ?_⟩
  have hl := scanS_len (s := s)
  generalize scanS s = q at *
  obtain ⟨toks, p, er⟩ := q
  dsimp only at hl hw ⊢
  obtain ⟨a, n, c, rfl, hn, hnc, hc⟩ := hw.own_shape (i := 0) rfl
  simp only [List.length_map] at hn
  obtain ⟨Γ', hle, hr, hw⟩ := Wd.freeze hw
  repeat (first | refine byW ?_ | (refine byV ?_; intro w hw))
  refine lAlloc ?_
  intro b4 w hw
  repeat (first | refine byW ?_ | (refine byV ?_; intro w hw))
  refine lStore ?_
  intro w hw
  have hw : Wd Γ' (.blk b4 (.cells #[.int .i64 p.Line, .int .i64 p.Col] 33) :: S) w := hw
  repeat (first | refine byW ?_ | (refine byV ?_; intro w hw))
  refine lBox ?_
  intro bp w hw
  have hw : Wd Γ' (rpB bp s a n c ⟨0, p, er⟩ :: .blk b4 (.cells #[.int .i64 p.Line, .int .i64 p.Col] 33) :: S) w := hw
  repeat (first | refine byW ?_ | (refine byV ?_; intro w hw))
  exact ⟨_, rfl, Γ', bp, a, n, c, hle, rfl, ⟨hr, by omega⟩, hw.dropAt 1⟩
theorem anyS_er {toks : List Tok} {e : PosT} {τ : RS} {kind : Int} (h : τ.er ≠ 0) : anyS toks e τ kind = (default, τ) := by
  unfold anyS failS
  rw [if_neg (by simp [h]), if_neg h]
theorem anyS_ok {toks : List Tok} {e : PosT} {τ : RS} {kind : Int} (h : τ.er = 0) : (∃ t, nextP toks e kind τ.I = .ok (t, τ.I) ∧ toks[τ.I]? = some t ∧ anyS toks e τ kind = (t, ⟨τ.I + 1, τ.p, 0⟩)) ∨ (nextP toks e kind τ.I = .error (posOf toks τ.I e, 50) ∧ anyS toks e τ kind = (default, ⟨τ.I, posOf toks τ.I e, 50⟩)) := by
  cases hk : kindS toks τ.I kind with
  | true =>
    obtain ⟨t, h1, h2⟩ := nextP_ok (e := e) hk
    refine .inl ⟨t, h2, h1, ?_⟩
    unfold anyS
    rw [hk, decide_eq_true h, h1, h]; rfl
  | false =>
    refine .inr ⟨nextP_bad hk, ?_⟩
    unfold anyS failS
    rw [hk, decide_eq_true h, if_neg (by decide), if_pos h]
theorem nameR_st {toks : List Tok} {e : PosT} {τ : RS} {kind : Int} (h : τ.er = 0) : match nameP toks e kind τ.I with
    | .ok (v, k) => nameR toks e τ kind = (v, ⟨k, τ.p, 0⟩)
    | .error (p, er) => (nameR toks e τ kind).2.p = p ∧ (nameR toks e τ kind).2.er = er ∧ er ≠ 0 ∧ (nameR toks e τ kind).2.I ≤ τ.I + 1 := by
  unfold nameR
  rcases anyS_ok (toks := toks) (e := e) (kind := kind) h with ⟨t, h1, h2, h3⟩ | ⟨h1, h3⟩
  · rw [h3]
    unfold nameP
    rw [h1]
    dsimp only
    by_cases hv : 24 < t.Text.size
    · rw [if_pos hv, if_pos hv]
      exact ⟨rfl, rfl, by decide, Nat.le_refl _⟩
    · rw [if_neg hv, if_neg hv]
  · rw [h3]
    unfold nameP
    rw [h1]
    dsimp only
    rw [if_neg (by decide)]
    exact ⟨rfl, rfl, by decide, Nat.le_succ _⟩
theorem nameR_er {toks : List Tok} {e : PosT} {τ : RS} {kind : Int} (h : τ.er ≠ 0) : (nameR toks e τ kind).2 = τ := by
  unfold nameR
  rw [anyS_er h]
  dsimp only
  rw [if_neg (by decide)]
theorem nameR_I {toks : List Tok} {e : PosT} {τ : RS} {kind : Int} (h : τ.I ≤ toks.length) : (nameR toks e τ kind).2.I ≤ toks.length := by
  have := anyS_I (toks := toks) (e := e) (kind := kind) (σ := τ) h
  unfold nameR
  dsimp only
  split
  · rw [failS_I]; exact this
  · exact this
/-- The reading of an int, as the program's. -/
theorem intR_st {toks : List Tok} {e : PosT} {τ : RS} (h : τ.er = 0) : match numberP toks e true τ.I with
    | .ok (v, k) => intR toks e τ = (IntKind.i64.wrap v, ⟨k, τ.p, 0⟩)
    | .error (p, er) => (intR toks e τ).2.p = p ∧ (intR toks e τ).2.er = er ∧ er ≠ 0 ∧ (intR toks e τ).2.I ≤ τ.I + 1 := by
  unfold intR
  rcases anyS_ok (toks := toks) (e := e) (kind := 2) h with ⟨t, h1, h2, h3⟩ | ⟨h1, h3⟩
  · rw [h3, numberP_of h1]
    dsimp only
    by_cases hv : 2147483647 < t.Value
    · rw [if_pos ⟨rfl, hv⟩, if_pos hv]
      exact ⟨rfl, rfl, by decide, Nat.le_refl _⟩
    · rw [if_neg (fun q => hv q.2), if_neg hv]
  · rw [h3]
    unfold numberP
    rw [h1]
    dsimp only
    rw [if_neg (by decide)]
    exact ⟨rfl, rfl, by decide, Nat.le_succ _⟩
theorem intR_er {toks : List Tok} {e : PosT} {τ : RS} (h : τ.er ≠ 0) : (intR toks e τ).2 = τ := by
  unfold intR
  rw [anyS_er h]
  dsimp only
  rw [if_neg (by decide)]
theorem intR_I {toks : List Tok} {e : PosT} {τ : RS} (h : τ.I ≤ toks.length) : (intR toks e τ).2.I ≤ toks.length := by
  have := anyS_I (toks := toks) (e := e) (kind := 2) (σ := τ) h
  unfold intR
  split
  · rw [failS_I]; exact this
  · exact this
end Go.Proofs.YtmjkacgmepbljaaGreatDoor
end
/- The reference's facts: numbers and arguments of facts are read. -/
section
open Go Mk
namespace Go.Proofs.YtmjkacgmepbljaaGreatDoor
set_option maxHeartbeats 16000000
attribute [local irreducible] Calls posAt endP

theorem y_fieldV {P : Program} {ρ : Fr} {w : World} {d : Option Tmp} {T ty : TypeId} {pos : String} {es : Array Edge} {g : Option (Nat × Bool)} {x : Operand} {f : Nat} {v u : Value} (hx : ev ρ x = v) (h : (Instr.field T v f).run P w = .ok u w)  : Mk.Yields P ⟨d, .field T x f, ty, pos, es, g⟩ ρ w u := by
  unfold Mk.Yields
  simp [execOp, hx, h]
def two63 : Int := 9223372036854775808
def intA (toks : List Tok) (e : PosT) (σ : RS) : Int × RS :=
  let mi := decide (σ.er = 0) && isS toks σ.I 4 dashB
  let q := anyS toks e (takeS toks σ 4 dashB) 2
  if mi = true ∧ q.1.Value ≤ 9223372036854775808 then (negV q.1.Value, q.2)
  else if mi = false ∧ q.1.Value < 9223372036854775808 then (posV q.1.Value, q.2)
  else (0, failS toks e q.2 (q.2.I - 1) 6)
theorem anyS_pos {toks : List Tok} {e : PosT} {σ : RS} {kind : Int} (h0 : (anyS toks e σ kind).2.er = 0) : 1 ≤ (anyS toks e σ kind).2.I := by
  unfold anyS at h0 ⊢
  split
  · show 1 ≤ σ.I + 1; omega
  · rename_i q
    rw [if_neg q] at h0
    exfalso
    unfold failS at h0
    split at h0
    · exact absurd h0 (show ¬ (50 : Int) = 0 by decide)
    · contradiction
theorem takeS_I {toks : List Tok} {σ : RS} {kind : Int} {text : ByteArray} (h : σ.I ≤ toks.length) : (takeS toks σ kind text).I ≤ toks.length := by
  unfold takeS
  split
  · rename_i q
    exact isS_lt (andR q)
  · exact h
def nameQ (toks : List Tok) (e : PosT) (σ : RS) (kind : Int) : Val × RS :=
  let q := nameR toks e σ kind
  (⟨2, 0, q.1⟩, if q.1 = ⟨#[]⟩ then failS toks e q.2 (q.2.I - 1) 63 else q.2)
def argR (toks : List Tok) (e : PosT) (σ : RS) : Val × RS :=
  if ((decide (σ.er = 0) && kindS toks σ.I 2) || (decide (σ.er = 0) && isS toks σ.I 4 dashB)) = true then (⟨1, (intA toks e σ).1, ⟨#[]⟩⟩, (intA toks e σ).2)
  else if ((decide (σ.er = 0) && kindS toks σ.I 1) || (decide (σ.er = 0) && kindS toks σ.I 3)) = true then nameQ toks e σ (pk toks σ.I).Kind
  else (default, failS toks e σ σ.I 50)
theorem nameR_pos {toks : List Tok} {e : PosT} {σ : RS} {kind : Int} (h0 : (nameR toks e σ kind).2.er = 0) : 1 ≤ (nameR toks e σ kind).2.I := by
  unfold nameR at h0 ⊢
  dsimp only at h0 ⊢
  split
  · rename_i q
    rw [if_pos q] at h0
    rw [failS_I]
    refine anyS_pos ?_
    unfold failS at h0
    split at h0
    · exact absurd h0 (show ¬ (63 : Int) = 0 by decide)
    · exact h0
  · rename_i q
    rw [if_neg q] at h0
    exact anyS_pos h0
section
variable {Γ : Gho} {S : List Res} {w : World} {bp : Nat} {s : ByteArray} {a : Option Addr} {n c : Nat} {σ : RS} {toks : List Tok}
theorem Integer_any [ht : RTok Γ a n c toks] [hs : SZ s] (hI : σ.I ≤ n) (hw : Wd Γ (rpB bp s a n c σ :: S) w) :
    Calls Tryz.prog 85 #[.pointer (some ⟨bp, 0, none⟩)] w fun r w' => r = .returned (.int .i64 (intA toks (endP s) σ).1) ∧ Wd Γ (rpB bp s a n c (intA toks (endP s) σ).2 :: S) w' := by
  obtain ⟨hn, hnc, hc⟩ := ht.len
  have hbig := ht.big
  refine calls_of_W Tryz.func85 rfl rfl ?_
  repeat (first | refine byW ?_ | (refine byV ?_; intro w hw))
  refine lCall ?_
  refine (Take_any 4 dashB hw).mono ?_
  clear hw
  rintro r w ⟨rfl, hw⟩
  refine ⟨_, rfl, ?_⟩
  have hI1 := takeS_I (toks := toks) (σ := σ) (kind := 4) (text := dashB) (by omega)
  unfold intA
  generalize (decide (σ.er = 0) && isS toks σ.I 4 dashB) = mi at *
  generalize takeS toks σ 4 dashB = σ1 at *
  dsimp only
  repeat (first | refine byW ?_ | (refine byV ?_; intro w hw))
  refine lCall ?_
  refine (Any_any 2 (by omega) hw).mono ?_
  clear hw
  rintro r w ⟨rfl, hw⟩
  refine ⟨_, rfl, ?_⟩
  have hI2 := anyS_I (toks := toks) (e := endP s) (kind := 2) (σ := σ1) hI1
  have hI3 := anyS_pos (toks := toks) (e := endP s) (σ := σ1) (kind := 2)
  generalize anyS toks (endP s) σ1 2 = q at *
  obtain ⟨t, τ⟩ := q
  dsimp only at hw hI2 hI3 ⊢
  refine lY (v := .int .u64 t.Value) ?_ (hy := y_fieldV rfl (by kernel_rfl))
  repeat (first | refine byW ?_ | (refine byV ?_; intro w hw))
  refine W_cond rfl (fun h => ?_) (fun h => ?_)
  · have h' : (mi && decide (t.Value ≤ 9223372036854775808)) = true := h
    rw [Bool.and_eq_true, decide_eq_true_eq] at h'
    rw [if_pos h']
    repeat (first | refine byW ?_ | (refine byV ?_; intro w hw))
    refine lY (v := .int .i64 (negV t.Value)) ?_ (hy := y_negW rfl)
    repeat (first | refine byW ?_ | (refine byV ?_; intro w hw))
    exact ⟨_, rfl, rfl, hw⟩
  have h' : (mi && decide (t.Value ≤ 9223372036854775808)) = false := h
  rw [if_neg (fun q => by rw [q.1, decide_eq_true q.2] at h'; cases h')]
  repeat (first | refine byW ?_ | (refine byV ?_; intro w hw))
  refine W_cond rfl (fun h2 => ?_) (fun h2 => ?_)
  · have h2' : (!mi && decide (t.Value < 9223372036854775808)) = true := h2
    rw [Bool.and_eq_true, decide_eq_true_eq, Bool.not_eq_true'] at h2'
    rw [if_pos h2']
    repeat (first | refine byW ?_ | (refine byV ?_; intro w hw))
    exact ⟨_, rfl, rfl, hw⟩
  have h2' : (!mi && decide (t.Value < 9223372036854775808)) = false := h2
  rw [if_neg (fun q => by rw [q.1, decide_eq_true q.2] at h2'; cases h2')]
  repeat (first | refine byW ?_ | (refine byV ?_; intro w hw))
  refine lCall ?_
  refine (Fail_any ((τ.I : Int) - 1) (τ.I - 1) 6 (fun h0 => by have := hI3 h0; omega) hw).mono ?_
  clear hw
  rintro r w ⟨rfl, hw⟩
  refine ⟨_, rfl, ?_⟩
  repeat (first | refine byW ?_ | (refine byV ?_; intro w hw))
  exact ⟨_, rfl, rfl, hw⟩
theorem Argument_any [ht : RTok Γ a n c toks] [hs : SZ s] (hI : σ.I ≤ n) (hw : Wd Γ (rpB bp s a n c σ :: S) w) :
    Calls Tryz.prog 48 #[.pointer (some ⟨bp, 0, none⟩)] w fun r w' => r = .returned (.agg (enc (argR toks (endP s) σ).1).toArray) ∧ Wd Γ (rpB bp s a n c (argR toks (endP s) σ).2 :: S) w' := by
  obtain ⟨hn, hnc, hc⟩ := ht.len
  have hbig := ht.big
  have hr := ht.h
  refine calls_of_WC Tryz.func48 rfl rfl ?_
  repeat (first | refine byW ?_ | (refine byV ?_; intro w hw))
  refine lAlloc ?_
  intro b2 w hw
  have hw : Wd Γ (rpB bp s a n c σ :: .blk b2 (.cells (enc (default : Val)).toArray 30) :: S) w := hw.ps [1]
  unfold argR
  repeat (first | refine byW ?_ | (refine byV ?_; intro w hw) | (apply L_plain; apply L_go; refine lPs ?_; intro w hw) | (apply L_guarded; apply L_go; refine lPsG ?_; intro w hw))
  refine W_cond rfl (fun h => ?_) (fun h => ?_)
  · have h : ((decide (σ.er = 0) && kindS toks σ.I 2) || (decide (σ.er = 0) && isS toks σ.I 4 dashB)) = true := h
    rw [if_pos h]
    repeat (first | refine byW ?_ | (refine byV ?_; intro w hw))
    refine lCall ?_
    refine (Integer_any hI hw).mono ?_
    clear hw
    rintro r w ⟨rfl, hw⟩
    refine ⟨_, rfl, ?_⟩
    repeat (first | refine byW ?_ | (refine byV ?_; intro w hw))
    refine lStore (i := 1) ?_
    intro w hw
    have hw : Wd Γ (rpB bp s a n c (intA toks (endP s) σ).2 :: .blk b2 (.cells (enc (⟨1, (intA toks (endP s) σ).1, ⟨#[]⟩⟩ : Val)).toArray 30) :: S) w := hw
    repeat (first | refine byW ?_ | (refine byV ?_; intro w hw))
    exact ⟨[.agg (enc (⟨1, (intA toks (endP s) σ).1, ⟨#[]⟩⟩ : Val)).toArray], ⟨resC (i := 1) hw rfl rfl rfl, trivial⟩, rfl, hw.dropAt 1⟩
  have h : ¬ ((decide (σ.er = 0) && kindS toks σ.I 2) || (decide (σ.er = 0) && isS toks σ.I 4 dashB)) = true := by
    have h : ((decide (σ.er = 0) && kindS toks σ.I 2) || (decide (σ.er = 0) && isS toks σ.I 4 dashB)) = false := h
    rw [h]; decide
  rw [if_neg h]
  repeat (first | refine byW ?_ | (refine byV ?_; intro w hw) | (apply L_plain; apply L_go; refine lPs ?_; intro w hw) | (apply L_guarded; apply L_go; refine lPsG ?_; intro w hw))
  refine W_cond rfl (fun h2 => ?_) (fun h2 => ?_)
  · have h2 : ((decide (σ.er = 0) && kindS toks σ.I 1) || (decide (σ.er = 0) && kindS toks σ.I 3)) = true := h2
    rw [if_pos h2]
    have hlt : σ.I < toks.length := by
      rw [Bool.or_eq_true] at h2
      rcases h2 with q | q
      · exact kindS_lt (andR q)
      · exact kindS_lt (andR q)
    obtain ⟨t, htk⟩ := get_lt (l := toks) (k := σ.I) hlt
    have hpk : pk toks σ.I = t := pk_some htk
    rw [hpk]
    have hn2 : σ.I < n := by omega
    repeat (first | refine byW ?_ | (refine byV ?_; intro w hw))
    refine W_mix1 [] (rpB bp s a n c σ :: .blk b2 (.cells (enc (default : Val)).toArray 30) :: S) [[],[],[],[],[],[],[],[],[],[],[],[],[0],[]] [[],[],[],[],[0],[],[],[],[0],[],[],[],[0],[]] hw ?_
    repeat (first | refine mY ?_ | refine mP ?_ | refine mPg ?_)
    have hN2 := nameR_I (toks := toks) (e := endP s) (τ := σ) (kind := t.Kind) (by omega)
    have hN3 := nameR_pos (toks := toks) (e := endP s) (σ := σ) (kind := t.Kind)
    have hNm : ∀ (R : List Res) (w : World), Wd Γ ((rpB bp s a n c σ :: .blk b2 (.cells (enc (default : Val)).toArray 30) :: S) ++ R) w → Calls Tryz.prog 44 [.pointer (some ⟨bp, 0, none⟩), .int .i64 t.Kind].toArray w fun e w' => e = .returned (.string (nameR toks (endP s) σ t.Kind).1) ∧ Wd Γ ((rpB bp s a n c (nameR toks (endP s) σ t.Kind).2 :: .blk b2 (.cells (enc (default : Val)).toArray 30) :: S) ++ R) w' := fun R w hw => Name_any t.Kind hI hw
    unfold nameQ
    generalize nameR toks (endP s) σ t.Kind = q at *
    obtain ⟨nm, τ⟩ := q
    dsimp only at hN2 hN3 hNm ⊢
    refine mCallS (c := 0) (vs := [.pointer (some ⟨bp, 0, none⟩), .int .i64 t.Kind]) (v := .string nm) (rpB bp s a n c τ :: .blk b2 (.cells (enc (default : Val)).toArray 30) :: S) hNm ?_
    repeat (first | refine mY ?_ | refine mP ?_ | refine mPg ?_)
    refine mEnd fun w g hw => ?_
    have hw : Wd Γ ([] ++ ((rpB bp s a n c τ :: .blk b2 (.cells (enc (default : Val)).toArray 30) :: S) ++ [])) w := hw
    rw [List.append_nil, List.nil_append] at hw
    repeat (first | refine byW ?_ | (refine byV ?_; intro w hw))
    refine W_cutT (fun ρ w => Has ρ [(2, .pointer (some ⟨b2, 0, none⟩)), (3, .string nm)] ∧ Wd Γ (rpB bp s a n c (if nm = ⟨#[]⟩ then failS toks (endP s) τ (τ.I - 1) 63 else τ) :: .blk b2 (.cells (enc (default : Val)).toArray 30) :: S) w) ?_ ?_
    · refine W_cond rfl (fun h3 => ?_) (fun h3 => ?_)
      · have h3 : nm = ⟨#[]⟩ := of_decide_eq_true h3
        rw [if_pos h3]
        repeat (first | refine byW ?_ | (refine byV ?_; intro w hw))
        refine lCall ?_
        refine (Fail_any ((τ.I : Int) - 1) (τ.I - 1) 63 (fun h0 => by have := hN3 h0; omega) hw).mono ?_
        clear hw
        rintro r w ⟨rfl, hw⟩
        refine ⟨_, rfl, ?_⟩
        repeat (first | refine byW ?_ | (refine byV ?_; intro w hw))
        exact ⟨⟨rfl, rfl, trivial⟩, hw⟩
      · have h3 : ¬ nm = ⟨#[]⟩ := of_decide_eq_false h3
        rw [if_neg h3]
        repeat (first | refine byW ?_ | (refine byV ?_; intro w hw))
        exact ⟨⟨rfl, rfl, trivial⟩, hw⟩
    clear hw
    rintro ρ w ⟨hρ, hw⟩
    rw [hρ.eq]
    repeat (first | refine byW ?_ | (refine byV ?_; intro w hw))
    refine lStore (i := 1) ?_
    intro w hw
    have hw : Wd Γ (rpB bp s a n c (if nm = ⟨#[]⟩ then failS toks (endP s) τ (τ.I - 1) 63 else τ) :: .blk b2 (.cells (enc (⟨2, 0, nm⟩ : Val)).toArray 30) :: S) w := hw
    repeat (first | refine byW ?_ | (refine byV ?_; intro w hw))
    exact ⟨[.agg (enc (⟨2, 0, nm⟩ : Val)).toArray], ⟨resC (i := 1) hw rfl rfl rfl, trivial⟩, rfl, hw.dropAt 1⟩
  have h2 : ¬ ((decide (σ.er = 0) && kindS toks σ.I 1) || (decide (σ.er = 0) && kindS toks σ.I 3)) = true := by
    have h2 : ((decide (σ.er = 0) && kindS toks σ.I 1) || (decide (σ.er = 0) && kindS toks σ.I 3)) = false := h2
    rw [h2]; decide
  rw [if_neg h2]
  repeat (first | refine byW ?_ | (refine byV ?_; intro w hw))
  refine lCall ?_
  refine (Fail_any (σ.I : Int) σ.I 50 (fun _ => rfl) hw).mono ?_
  clear hw
  rintro r w ⟨rfl, hw⟩
  refine ⟨_, rfl, ?_⟩
  repeat (first | refine byW ?_ | (refine byV ?_; intro w hw))
  refine lStore (i := 1) ?_
  intro w hw
  have hw : Wd Γ (rpB bp s a n c (failS toks (endP s) σ σ.I 50) :: .blk b2 (.cells (enc (default : Val)).toArray 30) :: S) w := hw
  repeat (first | refine byW ?_ | (refine byV ?_; intro w hw))
  exact ⟨[.agg (enc (default : Val)).toArray], ⟨resC (i := 1) hw rfl rfl rfl, trivial⟩, rfl, hw.dropAt 1⟩
end
end Go.Proofs.YtmjkacgmepbljaaGreatDoor
end
/- The reference's readings of facts end as the program's (no program in sight). -/
section
open Go Mk
namespace Go.Proofs.YtmjkacgmepbljaaGreatDoor
set_option maxHeartbeats 16000000
attribute [local irreducible] Calls posAt endP

theorem kindS_pk {toks : List Tok} {k : Nat} {kind : Int} (h0 : kind ≠ 0) : kindS toks k kind = decide ((pk toks k).Kind = kind) := by
  unfold kindS pk
  cases toks[k]? with
  | none => exact (decide_eq_false fun h => h0 h.symm).symm
  | some t => rfl
theorem failS_z {toks : List Tok} {e : PosT} {σ : RS} {i : Nat} {er : Int} (h : σ.er = 0) : failS toks e σ i er = ⟨σ.I, posOf toks i e, er⟩ := if_pos h
theorem failS_n {toks : List Tok} {e : PosT} {σ : RS} {i : Nat} {er : Int} (h : σ.er ≠ 0) : failS toks e σ i er = σ := if_neg h
section
variable {toks : List Tok} {e : PosT} {σ : RS}
theorem anyS_k {kind : Int} (h : σ.er = 0) (hk : kindS toks σ.I kind = true) : anyS toks e σ kind = (pk toks σ.I, ⟨σ.I + 1, σ.p, 0⟩) := by
  unfold anyS
  rw [hk, decide_eq_true h, h]; rfl
theorem anyS_b {kind : Int} (h : σ.er = 0) (hk : kindS toks σ.I kind = false) : anyS toks e σ kind = (default, ⟨σ.I, posOf toks σ.I e, 50⟩) := by
  unfold anyS
  rw [hk, decide_eq_true h, failS_z h]; rfl
theorem takeS_t (h : σ.er = 0) {kind : Int} {text : ByteArray} (hk : isS toks σ.I kind text = true) : takeS toks σ kind text = ⟨σ.I + 1, σ.p, 0⟩ := by
  unfold takeS
  rw [hk, decide_eq_true h, h]; rfl
theorem takeS_f {kind : Int} {text : ByteArray} (hk : isS toks σ.I kind text = false) : takeS toks σ kind text = σ := by
  unfold takeS
  rw [hk, Bool.and_false]; rfl
/-- How a reading of the reference ends, as one of the program. -/
def Ends {α : Type} (P : PR α) (σ : RS) (q : α × RS) : Prop := match P with
  | .ok (v, k1) => q = (v, ⟨k1, σ.p, 0⟩)
  | .error (p, er) => q.2.p = p ∧ q.2.er = er ∧ er ≠ 0
theorem intP_neg {k : Nat} : intP toks e true k = if (pk toks k).Kind ≠ 2 then .error (posOf toks k e, 50) else if 9223372036854775808 < (pk toks k).Value then .error (posOf toks k e, 6) else .ok (negV (pk toks k).Value, k + 1) := by
  unfold intP
  by_cases h1 : (pk toks k).Kind ≠ 2
  · rw [if_pos h1, if_pos h1]
  rw [if_neg h1, if_neg h1]
  by_cases h2 : 9223372036854775808 < (pk toks k).Value
  · rw [if_pos (Or.inl ⟨rfl, h2⟩), if_pos h2]
  · rw [if_neg (show ¬ ((true = true ∧ 9223372036854775808 < (pk toks k).Value) ∨ (true = false ∧ 9223372036854775808 ≤ (pk toks k).Value)) from fun q => q.elim (fun q => h2 q.2) (fun q => by cases q.1)), if_neg h2]; rfl
theorem intP_pos {k : Nat} : intP toks e false k = if (pk toks k).Kind ≠ 2 then .error (posOf toks k e, 50) else if 9223372036854775808 ≤ (pk toks k).Value then .error (posOf toks k e, 6) else .ok (posV (pk toks k).Value, k + 1) := by
  unfold intP
  by_cases h1 : (pk toks k).Kind ≠ 2
  · rw [if_pos h1, if_pos h1]
  rw [if_neg h1, if_neg h1]
  by_cases h2 : 9223372036854775808 ≤ (pk toks k).Value
  · rw [if_pos (Or.inr ⟨rfl, h2⟩), if_pos h2]
  · rw [if_neg (show ¬ ((false = true ∧ 9223372036854775808 < (pk toks k).Value) ∨ (false = false ∧ 9223372036854775808 ≤ (pk toks k).Value)) from fun q => q.elim (fun q => by cases q.1) (fun q => h2 q.2)), if_neg h2]; rfl
theorem intA_neg (h : σ.er = 0) (hd : isS toks σ.I 4 dashB = true) {q : Tok × RS} (hq : anyS toks e ⟨σ.I + 1, σ.p, 0⟩ 2 = q) : intA toks e σ = if q.1.Value ≤ 9223372036854775808 then (negV q.1.Value, q.2) else (0, failS toks e q.2 (q.2.I - 1) 6) := by
  unfold intA
  rw [takeS_t h hd, hq, hd, decide_eq_true h]
  dsimp only
  by_cases hv : q.1.Value ≤ 9223372036854775808
  · rw [if_pos ⟨rfl, hv⟩, if_pos hv]
  · rw [if_neg (show ¬ ((true && true) = true ∧ q.1.Value ≤ 9223372036854775808) from fun x => hv x.2), if_neg (show ¬ ((true && true) = false ∧ q.1.Value < 9223372036854775808) from fun x => by cases x.1), if_neg hv]
theorem intA_pos (hd : isS toks σ.I 4 dashB = false) {q : Tok × RS} (hq : anyS toks e σ 2 = q) : intA toks e σ = if q.1.Value < 9223372036854775808 then (posV q.1.Value, q.2) else (0, failS toks e q.2 (q.2.I - 1) 6) := by
  unfold intA
  rw [takeS_f hd, hq, hd, Bool.and_false]
  dsimp only
  rw [if_neg (show ¬ (false = true ∧ q.1.Value ≤ 9223372036854775808) from fun x => by cases x.1)]
  by_cases hv : q.1.Value < 9223372036854775808
  · rw [if_pos ⟨rfl, hv⟩, if_pos hv]
  · rw [if_neg (show ¬ (false = false ∧ q.1.Value < 9223372036854775808) from fun x => hv x.2), if_neg hv]
theorem intA_st1 (h : σ.er = 0) (hd : isS toks σ.I 4 dashB = true) : Ends (intP toks e true (σ.I + 1)) σ (intA toks e σ) := by
  rw [intP_neg]
  cases hk2 : kindS toks (σ.I + 1) 2 with
  | true =>
    have hK : (pk toks (σ.I + 1)).Kind = 2 := of_decide_eq_true ((kindS_pk (by decide)).symm.trans hk2)
    rw [intA_neg h hd (anyS_k (σ := ⟨σ.I + 1, σ.p, 0⟩) rfl hk2), if_neg (show ¬ (pk toks (σ.I + 1)).Kind ≠ 2 from fun q => q hK)]
    dsimp only
    by_cases hv : 9223372036854775808 < (pk toks (σ.I + 1)).Value
    · rw [if_pos hv, if_neg (show ¬ (pk toks (σ.I + 1)).Value ≤ 9223372036854775808 by omega)]
      exact ⟨rfl, rfl, by decide⟩
    · rw [if_neg hv, if_pos (show (pk toks (σ.I + 1)).Value ≤ 9223372036854775808 by omega)]
      rfl
  | false =>
    have hK : (pk toks (σ.I + 1)).Kind ≠ 2 := of_decide_eq_false ((kindS_pk (by decide)).symm.trans hk2)
    rw [intA_neg h hd (anyS_b (σ := ⟨σ.I + 1, σ.p, 0⟩) rfl hk2), if_pos hK]
    exact ⟨rfl, rfl, by decide⟩
theorem intA_st2 (h : σ.er = 0) (hd : isS toks σ.I 4 dashB = false) (hk : kindS toks σ.I 2 = true) : Ends (intP toks e false σ.I) σ (intA toks e σ) := by
  have hK : (pk toks σ.I).Kind = 2 := of_decide_eq_true ((kindS_pk (by decide)).symm.trans hk)
  rw [intP_pos, intA_pos hd (anyS_k h hk), if_neg (show ¬ (pk toks σ.I).Kind ≠ 2 from fun q => q hK)]
  dsimp only
  by_cases hv : 9223372036854775808 ≤ (pk toks σ.I).Value
  · rw [if_pos hv, if_neg (show ¬ (pk toks σ.I).Value < 9223372036854775808 by omega)]
    exact ⟨rfl, rfl, by decide⟩
  · rw [if_neg hv, if_pos (show (pk toks σ.I).Value < 9223372036854775808 by omega)]
    rfl
theorem argR_er (h : σ.er ≠ 0) : argR toks e σ = (default, σ) := by
  unfold argR
  rw [decide_eq_false h]
  simp only [Bool.false_and, Bool.or_false]
  rw [if_neg (by decide), if_neg (by decide), failS_n h]
theorem isS_kind {k : Nat} {kind : Int} {text : ByteArray} (h0 : kind ≠ 0) (h : isS toks k kind text = true) : (pk toks k).Kind = kind ∧ (pk toks k).Text = text := by
  rw [isS_pk h0, Bool.and_eq_true] at h
  exact ⟨of_decide_eq_true h.1, of_decide_eq_true h.2⟩
theorem argP_int {k : Nat} {b : Bool} (h : isS toks k 4 dashB = true) : argP toks e b k = if b = true then .error (posOf toks k e, 15) else argI (intP toks e true (k + 1)) := by
  obtain ⟨k4, kt⟩ := isS_kind (by decide) h
  unfold argP
  rw [if_neg (show ¬ ((pk toks k).Kind = 2 ∧ 9223372036854775808 ≤ (pk toks k).Value) from fun q => by rw [k4] at q; exact absurd q.1 (by decide))]
  rw [if_neg (show ¬ ((pk toks k).Kind = 1 ∨ (pk toks k).Kind = 3) from fun q => by rw [k4] at q; rcases q with q | q <;> exact absurd q (by decide))]
  rw [if_neg (show ¬ ((pk toks k).Kind ≠ 2 ∧ ((pk toks k).Kind ≠ 4 ∨ (pk toks k).Text ≠ dashB)) from fun q => q.2.elim (fun q => q k4) (fun q => q kt))]
  rw [k4]; rfl
theorem argP_num {k : Nat} {b : Bool} (hK : (pk toks k).Kind = 2) : argP toks e b k = if 9223372036854775808 ≤ (pk toks k).Value then .error (posOf toks k e, 6) else if b = true then .error (posOf toks k e, 15) else argI (intP toks e false k) := by
  unfold argP
  by_cases hv : 9223372036854775808 ≤ (pk toks k).Value
  · rw [if_pos ⟨hK, hv⟩, if_pos hv]
  rw [if_neg (show ¬ ((pk toks k).Kind = 2 ∧ 9223372036854775808 ≤ (pk toks k).Value) from fun q => hv q.2), if_neg hv]
  rw [if_neg (show ¬ ((pk toks k).Kind = 1 ∨ (pk toks k).Kind = 3) from fun q => by rw [hK] at q; rcases q with q | q <;> exact absurd q (by decide))]
  rw [if_neg (show ¬ ((pk toks k).Kind ≠ 2 ∧ ((pk toks k).Kind ≠ 4 ∨ (pk toks k).Text ≠ dashB)) from fun q => q.1 hK)]
  rw [hK]; rfl
theorem argP_wrd {k : Nat} {b : Bool} (hK : (pk toks k).Kind = 1 ∨ (pk toks k).Kind = 3) : argP toks e b k = if (pk toks k).Text = ⟨#[]⟩ ∨ 24 < (pk toks k).Text.size then .error (posOf toks k e, 63) else if b = true then .error (posOf toks k e, 15) else .ok (⟨2, 0, (pk toks k).Text⟩, k + 1) := by
  unfold argP
  rw [if_neg (show ¬ ((pk toks k).Kind = 2 ∧ 9223372036854775808 ≤ (pk toks k).Value) from fun q => by rw [q.1] at hK; rcases hK with q | q <;> exact absurd q (by decide)), if_pos hK]
theorem argP_bad {k : Nat} {b : Bool} (h1 : ¬ (pk toks k).Kind = 2) (h2 : ¬ ((pk toks k).Kind = 1 ∨ (pk toks k).Kind = 3)) (h3 : isS toks k 4 dashB = false) : argP toks e b k = .error (posOf toks k e, 50) := by
  have hdash : (pk toks k).Kind ≠ 4 ∨ (pk toks k).Text ≠ dashB := by
    rw [isS_pk (by decide), Bool.and_eq_false_iff] at h3
    rcases h3 with q | q
    · exact .inl (of_decide_eq_false q)
    · exact .inr (of_decide_eq_false q)
  unfold argP
  rw [if_neg (show ¬ ((pk toks k).Kind = 2 ∧ 9223372036854775808 ≤ (pk toks k).Value) from fun q => h1 q.1), if_neg h2, if_pos ⟨h1, hdash⟩]
theorem Ends.argI {P : PR Int} {q : Int × RS} (h : Ends P σ q) : Ends (argI P) σ ((⟨1, q.1, ⟨#[]⟩⟩, q.2) : Val × RS) := by
  cases P with
  | ok x => obtain ⟨v, k1⟩ := x; have h : q = (v, ⟨k1, σ.p, 0⟩) := h; rw [h]; rfl
  | error x => exact h
theorem nameQ_st (h : σ.er = 0) (hK : (pk toks σ.I).Kind = 1 ∨ (pk toks σ.I).Kind = 3) : Ends (argP toks e false σ.I) σ (nameQ toks e σ (pk toks σ.I).Kind) := by
  have hks : kindS toks σ.I (pk toks σ.I).Kind = true := by
    rw [kindS_pk (by rcases hK with q | q <;> rw [q] <;> decide)]; exact decide_eq_true rfl
  have hN : nameR toks e σ (pk toks σ.I).Kind = ((pk toks σ.I).Text, if 24 < (pk toks σ.I).Text.size then ⟨σ.I + 1, posOf toks σ.I e, 63⟩ else ⟨σ.I + 1, σ.p, 0⟩) := by
    unfold nameR
    rw [anyS_k h hks]; rfl
  rw [argP_wrd hK]
  unfold nameQ
  rw [hN]
  dsimp only
  by_cases hs : 24 < (pk toks σ.I).Text.size
  · have hz : ¬ (pk toks σ.I).Text = ⟨#[]⟩ := fun q => by rw [q] at hs; exact absurd hs (by decide)
    rw [if_pos (Or.inr hs), if_pos hs, if_neg hz]
    exact ⟨rfl, rfl, by decide⟩
  · rw [if_neg hs]
    by_cases hz : (pk toks σ.I).Text = ⟨#[]⟩
    · rw [if_pos (Or.inl hz), if_pos hz, failS_z rfl]
      exact ⟨rfl, rfl, by decide⟩
    · rw [if_neg (show ¬ ((pk toks σ.I).Text = ⟨#[]⟩ ∨ 24 < (pk toks σ.I).Text.size) from fun q => q.elim hz hs), if_neg hz]
      rfl
theorem argR_st (h : σ.er = 0) : Ends (argP toks e false σ.I) σ (argR toks e σ) := by
  cases hd : isS toks σ.I 4 dashB with
  | true =>
    have hA : argR toks e σ = (⟨1, (intA toks e σ).1, ⟨#[]⟩⟩, (intA toks e σ).2) := by
      unfold argR
      rw [if_pos (by rw [hd, decide_eq_true h]; simp)]
    rw [hA, argP_int hd]
    exact (intA_st1 h hd).argI
  | false =>
    cases hk2 : kindS toks σ.I 2 with
    | true =>
      have hK : (pk toks σ.I).Kind = 2 := of_decide_eq_true ((kindS_pk (by decide)).symm.trans hk2)
      have hA : argR toks e σ = (⟨1, (intA toks e σ).1, ⟨#[]⟩⟩, (intA toks e σ).2) := by
        unfold argR
        rw [if_pos (by rw [hk2, decide_eq_true h]; simp)]
      have hI := intA_st2 (e := e) h hd hk2
      rw [hA, argP_num hK]
      by_cases hv : 9223372036854775808 ≤ (pk toks σ.I).Value
      · rw [if_pos hv]
        rw [intP_pos, if_neg (show ¬ (pk toks σ.I).Kind ≠ 2 from fun q => q hK), if_pos hv] at hI
        exact hI
      · rw [if_neg hv]
        exact hI.argI
    | false =>
      have hK2 : ¬ (pk toks σ.I).Kind = 2 := of_decide_eq_false ((kindS_pk (by decide)).symm.trans hk2)
      have h0 : ¬ ((decide (σ.er = 0) && kindS toks σ.I 2) || (decide (σ.er = 0) && isS toks σ.I 4 dashB)) = true := by rw [hk2, hd]; simp
      by_cases hK : (pk toks σ.I).Kind = 1 ∨ (pk toks σ.I).Kind = 3
      · have hA : argR toks e σ = nameQ toks e σ (pk toks σ.I).Kind := by
          unfold argR
          rw [if_neg h0, if_pos (by
            rw [kindS_pk (by decide), kindS_pk (by decide), decide_eq_true h]
            rcases hK with q | q <;> rw [q] <;> decide)]
        rw [hA]
        exact nameQ_st h hK
      · have hA : argR toks e σ = (default, failS toks e σ σ.I 50) := by
          unfold argR
          rw [if_neg h0, if_neg (by
            rw [kindS_pk (by decide), kindS_pk (by decide), decide_eq_true h]
            simpa using hK)]
        rw [hA, argP_bad hK2 hK hd, failS_z h]
        exact ⟨rfl, rfl, by decide⟩
theorem argP_true {k : Nat} : argP toks e true k = if isS toks k 4 dashB = true then .error (posOf toks k e, 15) else match argP toks e false k with
    | .error q => .error q
    | .ok _ => .error (posOf toks k e, 15) := by
  cases hd : isS toks k 4 dashB with
  | true => rw [argP_int hd]; rfl
  | false =>
    rw [if_neg (show ¬ false = true by decide)]
    by_cases hK : (pk toks k).Kind = 2
    · rw [argP_num hK, argP_num hK]
      by_cases hv : 9223372036854775808 ≤ (pk toks k).Value
      · rw [if_pos hv, if_pos hv]
      · rw [if_neg hv, if_neg hv, intP_pos, if_neg (show ¬ (pk toks k).Kind ≠ 2 from fun q => q hK), if_neg hv]; rfl
    by_cases hW : (pk toks k).Kind = 1 ∨ (pk toks k).Kind = 3
    · rw [argP_wrd hW, argP_wrd hW]
      by_cases hv : (pk toks k).Text = ⟨#[]⟩ ∨ 24 < (pk toks k).Text.size
      · rw [if_pos hv, if_pos hv]
      · rw [if_neg hv, if_neg hv]; rfl
    rw [argP_bad hK hW hd, argP_bad hK hW hd]
def argB (toks : List Tok) (e : PosT) (σ : RS) (b : Bool) : Val × RS :=
  let q := argR toks e (if (b && (decide (σ.er = 0) && isS toks σ.I 4 dashB)) = true then failS toks e σ σ.I 15 else σ)
  (q.1, if b = true then failS toks e q.2 σ.I 15 else q.2)
theorem ne15 : (15 : Int) ≠ 0 := by decide
theorem ne50 : (50 : Int) ≠ 0 := by decide
theorem ne63 : (63 : Int) ≠ 0 := by decide
theorem argB_st (h : σ.er = 0) (b : Bool) : Ends (argP toks e b σ.I) σ (argB toks e σ b) := by
  cases b with
  | false => exact argR_st h
  | true =>
    rw [argP_true]
    cases hd : isS toks σ.I 4 dashB with
    | true =>
      have hB : argB toks e σ true = (default, ⟨σ.I, posOf toks σ.I e, 15⟩) := by
        unfold argB
        rw [hd, decide_eq_true h, if_pos (show (true && (true && true)) = true from rfl), failS_z h, argR_er (show (⟨σ.I, posOf toks σ.I e, 15⟩ : RS).er ≠ 0 from ne15)]
        dsimp only
        rw [if_pos rfl, failS_n (show (⟨σ.I, posOf toks σ.I e, 15⟩ : RS).er ≠ 0 from ne15)]
      rw [hB]
      exact ⟨rfl, rfl, ne15⟩
    | false =>
      have hB : argB toks e σ true = ((argR toks e σ).1, failS toks e (argR toks e σ).2 σ.I 15) := by
        unfold argB
        rw [hd, Bool.and_false, Bool.and_false, if_neg (show ¬ false = true by decide)]
        rfl
      rw [hB, if_neg (show ¬ false = true by decide)]
      have hA := argR_st (toks := toks) (e := e) h
      cases hP : argP toks e false σ.I with
      | error q =>
        obtain ⟨p, er⟩ := q
        rw [hP] at hA
        obtain ⟨h1, h2, h3⟩ := hA
        rw [failS_n (by rw [h2]; exact h3)]
        exact ⟨h1, h2, h3⟩
      | ok q =>
        obtain ⟨v, k1⟩ := q
        rw [hP] at hA
        have hA : argR toks e σ = (v, ⟨k1, σ.p, 0⟩) := hA
        rw [hA]
        exact ⟨rfl, rfl, ne15⟩
theorem intA_I (h : σ.I ≤ toks.length) : (intA toks e σ).2.I ≤ toks.length := by
  have h1 := takeS_I (σ := σ) (kind := 4) (text := dashB) h
  have h2 := anyS_I (e := e) (kind := 2) h1
  unfold intA
  dsimp only
  split
  · exact h2
  · split
    · exact h2
    · rw [failS_I]; exact h2
theorem argR_I (h : σ.I ≤ toks.length) : (argR toks e σ).2.I ≤ toks.length := by
  unfold argR
  split
  · exact intA_I h
  · split
    · unfold nameQ
      have := nameR_I (e := e) (kind := (pk toks σ.I).Kind) h
      dsimp only
      split
      · rw [failS_I]; exact this
      · exact this
    · show (failS toks e σ σ.I 50).I ≤ _
      rw [failS_I]; exact h
theorem argB_I {b : Bool} (h : σ.I ≤ toks.length) : (argB toks e σ b).2.I ≤ toks.length := by
  unfold argB
  dsimp only
  have key : ∀ σ' : RS, σ'.I ≤ toks.length → (if b = true then failS toks e (argR toks e σ').2 σ.I 15 else (argR toks e σ').2).I ≤ toks.length := fun σ' h' => by
    have := argR_I (e := e) h'
    split
    · rw [failS_I]; exact this
    · exact this
  refine key _ ?_
  split
  · rw [failS_I]; exact h
  · exact h
/-- The state of a reading whose answer is P: it goes on at the next token, or is known to fail. -/
def Goes {α : Type} (P : PR α) (σ : RS) (Q : Nat → PR α) : Prop := (σ.er = 0 ∧ P = Q σ.I) ∨ (σ.er ≠ 0 ∧ P = .error (σ.p, σ.er))
theorem Goes.need {α : Type} {P : PR α} {kind : Int} {text : ByteArray} {Q : Nat → PR α} (h : Goes P σ fun k => if isS toks k kind text = true then Q (k + 1) else .error (posOf toks k e, 50)) : Goes P (needS toks e σ kind text) Q := by
  unfold needS
  rcases h with ⟨h1, h2⟩ | ⟨h1, h2⟩
  · have h2 : P = if isS toks σ.I kind text = true then Q (σ.I + 1) else .error (posOf toks σ.I e, 50) := h2
    rw [decide_eq_true h1, Bool.true_and]
    by_cases hi : isS toks σ.I kind text = true
    · rw [if_pos hi] at h2 ⊢
      exact .inl ⟨h1, h2⟩
    · rw [if_neg hi] at h2 ⊢
      rw [failS_z h1]
      exact .inr ⟨ne50, h2⟩
  · rw [decide_eq_false h1, Bool.false_and, if_neg (by decide), failS_n h1]
    exact .inr ⟨h1, h2⟩
theorem name1_b (h : σ.er = 0) (hk : kindS toks σ.I 1 = false) : nameR toks e σ 1 = (⟨#[]⟩, ⟨σ.I, posOf toks σ.I e, 50⟩) := by
  unfold nameR
  rw [anyS_b h hk]; rfl
theorem name1_k (h : σ.er = 0) (hk : kindS toks σ.I 1 = true) : nameR toks e σ 1 = ((pk toks σ.I).Text, if 24 < (pk toks σ.I).Text.size then ⟨σ.I + 1, posOf toks σ.I e, 63⟩ else ⟨σ.I + 1, σ.p, 0⟩) := by
  unfold nameR
  rw [anyS_k h hk]; rfl
def limS (toks : List Tok) (e : PosT) (b : Bool) (σ : RS) : RS := if b = true then failS toks e σ (σ.I - 1) 15 else σ
theorem limS_n {b : Bool} (h : σ.er ≠ 0) : limS toks e b σ = σ := by
  unfold limS
  split
  · exact failS_n h
  · rfl
theorem limS_I {b : Bool} : (limS toks e b σ).I = σ.I := by
  unfold limS
  split
  · exact failS_I
  · rfl
theorem head_st (h : σ.er = 0) (b : Bool) : Goes (factP toks e b σ.I) (needS toks e (limS toks e b (nameR toks e σ 1).2) 4 lparB) fun k => factE toks e (nameR toks e σ 1).1 (argsN toks e (toks.length + 1) k []) := by
  refine Goes.need ?_
  cases hk : kindS toks σ.I 1 with
  | false =>
    have hK : (pk toks σ.I).Kind ≠ 1 := of_decide_eq_false ((kindS_pk (by decide)).symm.trans hk)
    have hP : factP toks e b σ.I = .error (posOf toks σ.I e, 50) := by unfold factP; rw [if_pos hK]
    rw [hP, name1_b h hk]
    refine .inr ?_
    rw [limS_n (show (⟨σ.I, posOf toks σ.I e, 50⟩ : RS).er ≠ 0 from ne50)]
    exact ⟨ne50, rfl⟩
  | true =>
    have hK : (pk toks σ.I).Kind = 1 := of_decide_eq_true ((kindS_pk (by decide)).symm.trans hk)
    rw [name1_k h hk]
    dsimp only
    by_cases hs : 24 < (pk toks σ.I).Text.size
    · have hP : factP toks e b σ.I = .error (posOf toks σ.I e, 63) := by
        unfold factP
        rw [if_neg (show ¬ (pk toks σ.I).Kind ≠ 1 from fun q => q hK), if_pos hs]
      rw [hP, if_pos hs]
      refine .inr ?_
      rw [limS_n (show (⟨σ.I + 1, posOf toks σ.I e, 63⟩ : RS).er ≠ 0 from ne63)]
      exact ⟨ne63, rfl⟩
    · rw [if_neg hs]
      cases b with
      | true =>
        have hP : factP toks e true σ.I = .error (posOf toks σ.I e, 15) := by
          unfold factP
          rw [if_neg (show ¬ (pk toks σ.I).Kind ≠ 1 from fun q => q hK), if_neg hs]; rfl
        rw [hP]
        exact .inr ⟨ne15, rfl⟩
      | false =>
        have hP : factP toks e false σ.I = if isS toks (σ.I + 1) 4 lparB = true then factE toks e (pk toks σ.I).Text (argsN toks e (toks.length + 1) (σ.I + 2) []) else .error (posOf toks (σ.I + 1) e, 50) := by
          unfold factP
          rw [if_neg (show ¬ (pk toks σ.I).Kind ≠ 1 from fun q => q hK), if_neg hs]; rfl
        rw [hP]
        exact .inl ⟨rfl, rfl⟩
theorem tail_st {P : PR Fact} {x : Fact} (h : Goes P σ (endP2 toks e x)) : Goes P (needS toks e (needS toks e σ 4 rparB) 4 dotB) fun k => .ok (x, k) := by
  refine Goes.need (Goes.need ?_)
  rcases h with ⟨h1, h2⟩ | h
  · refine .inl ⟨h1, ?_⟩
    rw [h2]; rfl
  · exact .inr h
end
end Go.Proofs.YtmjkacgmepbljaaGreatDoor
end
/- The tokens of facts are read as these facts (no program in sight). -/
section
open Go Mk
namespace Go.Proofs.YtmjkacgmepbljaaGreatDoor
set_option maxHeartbeats 4000000
attribute [local irreducible] Calls

section
variable {toks : List Tok} {e : PosT}
/-- From token k on these tokens follow. -/
def At (toks : List Tok) (k : Nat) (ks : List Tri) : Prop := (toks.drop k).map tri = ks
theorem At.pk {k : Nat} {kd v : Int} {tx : ByteArray} {ks : List Tri} (h : At toks k ((kd, tx, v) :: ks)) : (Go.Proofs.YtmjkacgmepbljaaGreatDoor.pk toks k).Kind = kd ∧ (Go.Proofs.YtmjkacgmepbljaaGreatDoor.pk toks k).Text = tx ∧ (Go.Proofs.YtmjkacgmepbljaaGreatDoor.pk toks k).Value = v ∧ k < toks.length := by
  unfold At at h
  cases hd : toks.drop k with
  | nil => rw [hd] at h; cases h
  | cons x l =>
    rw [hd] at h
    have h1 := (List.cons.inj h).1
    have hx : toks[k]? = some x := by
      have := List.getElem?_drop (xs := toks) (i := k) (j := 0)
      rw [hd] at this
      simpa using this.symm
    rw [pk_some hx]
    have h2 : (x.Kind, x.Text, x.Value) = (kd, tx, v) := h1
    obtain ⟨rfl, h3⟩ := Prod.mk.inj h2
    obtain ⟨rfl, rfl⟩ := Prod.mk.inj h3
    exact ⟨rfl, rfl, rfl, (List.getElem?_eq_some_iff.1 hx).1⟩
theorem At.next {k : Nat} {t : Tri} {ks : List Tri} (h : At toks k (t :: ks)) : At toks (k + 1) ks := by
  unfold At at *
  rw [← List.drop_drop, List.map_drop, h]; rfl
theorem At.isS {k : Nat} {kind : Int} {text : ByteArray} {v : Int} {ks : List Tri} (h : At toks k ((kind, text, v) :: ks)) (k2 : Int) (t2 : ByteArray) (h0 : k2 ≠ 0) : isS toks k k2 t2 = (decide (kind = k2) && decide (text = t2)) := by
  obtain ⟨h1, h2, -, -⟩ := h.pk
  rw [isS_pk h0, h1, h2]
theorem At.val {k : Nat} {v : Val} {ks : List Tri} (hv : ValOk v) (hr : rightV v = true) (h : At toks k (valToks v ++ ks)) : argP toks e false k = .ok (v, k + (valToks v).length) ∧ At toks (k + (valToks v).length) ks := by
  obtain ⟨⟨hv0, hv1⟩, hv2⟩ := hv
  obtain ⟨vk, vn, vw⟩ := v
  unfold rightV textS at hr
  simp only [Bool.or_eq_true, Bool.and_eq_true, decide_eq_true_eq] at hr
  dsimp only at hv0 hv1 hv2
  unfold valToks at h ⊢
  dsimp only at h ⊢
  by_cases hk : vk = 1
  · rw [if_pos hk] at h ⊢
    have hw : vw = ⟨#[]⟩ := hr.elim (fun q => q.2) (fun q => absurd (hk.symm.trans q.1.1) (by decide))
    subst hk
    subst hw
    by_cases hn : vn < 0
    · rw [if_pos hn] at h ⊢
      have hd : Go.Proofs.YtmjkacgmepbljaaGreatDoor.isS toks k 4 dashB = true := by rw [At.isS h 4 dashB (by decide)]; rfl
      have h1 : At toks (k + 1) ((2, ⟨#[]⟩, (vn.natAbs : Nat)) :: ks) := At.next h
      obtain ⟨p1, -, p3, -⟩ := h1.pk
      refine ⟨?_, h1.next⟩
      rw [argP_int hd, if_neg (by decide), intP_neg, if_neg (fun q => q p1), p3, if_neg (by show ¬ _ < ((vn.natAbs : Nat) : Int); omega)]
      show Except.ok (_, _) = Except.ok (_, _)
      have : negV ((vn.natAbs : Nat) : Int) = vn := by
        unfold negV
        rw [IntKind.wrap_i64, IntKind.wrap_i64]; omega
      rw [this]; rfl
    · rw [if_neg hn] at h ⊢
      obtain ⟨p1, -, p3, -⟩ := h.pk
      refine ⟨?_, h.next⟩
      rw [argP_num p1, p3, if_neg (by show ¬ _ ≤ ((vn.toNat : Nat) : Int); omega), if_neg (by decide), intP_pos, if_neg (fun q => q p1), p3, if_neg (by show ¬ _ ≤ ((vn.toNat : Nat) : Int); omega)]
      show Except.ok (_, _) = Except.ok (_, _)
      have : posV ((vn.toNat : Nat) : Int) = vn := by
        unfold posV
        rw [IntKind.wrap_i64]; omega
      rw [this]; rfl
  · rw [if_neg hk] at h ⊢
    obtain ⟨⟨k2, n0⟩, ⟨-, t1⟩, t2⟩ := hr.resolve_left fun q => hk q.1
    subst k2
    subst n0
    have key : ∀ kd : Int, (kd = 1 ∨ kd = 3) → At toks k ((kd, vw, 0) :: ks) → argP toks e false k = .ok (⟨2, 0, vw⟩, k + 1) ∧ At toks (k + 1) ks := fun kd hkd h => by
      obtain ⟨p1, p2, -, -⟩ := h.pk
      refine ⟨?_, h.next⟩
      rw [argP_wrd (by rw [p1]; exact hkd), p2, if_neg (by rintro (q | q); · rw [q] at t1; exact absurd t1 (by decide)
                                                           · exact absurd t2 (by omega)), if_neg (by decide)]
    by_cases hw : nameS vw = true
    · rw [if_pos hw] at h ⊢
      exact key 1 (.inl rfl) h
    · rw [if_neg hw] at h ⊢
      exact key 3 (.inr rfl) h
theorem argP_f {b : Bool} (hb : b = false) {k : Nat} : argP toks e b k = argP toks e false k := by rw [hb]
theorem At.args {ks : List Tri} (hks : ∀ k, At toks k ks → Go.Proofs.YtmjkacgmepbljaaGreatDoor.isS toks k 4 commaB = false) : ∀ (vs : List Val) (f k : Nat) (acc : List Val), vs ≠ [] → (∀ v ∈ vs, ValOk v ∧ rightV v = true) → acc.length + vs.length ≤ 8 → vs.length ≤ f → At toks k (argsToks vs ++ ks) → ∃ k2, argsN toks e f k acc = .ok (acc ++ vs, k2) ∧ At toks k2 ks
  | [], _, _, _, hn, _, _, _, _ => absurd rfl hn
  | [v], f, k, acc, _, hv, hl, hf, h => by
    obtain ⟨f, rfl⟩ : ∃ f', f = f' + 1 := ⟨f - 1, by simp at hf; omega⟩
    obtain ⟨h1, h2⟩ := At.val (e := e) (hv v (by simp)).1 (hv v (by simp)).2 h
    refine ⟨_, ?_, h2⟩
    unfold argsN
    rw [argP_f (decide_eq_false (by simp at hl; omega)), h1]
    dsimp only
    rw [hks _ h2, if_neg (by decide)]
  | v :: w :: vs, f, k, acc, _, hv, hl, hf, h => by
    obtain ⟨f, rfl⟩ : ∃ f', f = f' + 1 := ⟨f - 1, by simp at hf; omega⟩
    have h' : At toks k (valToks v ++ ((4, mkB [44], 0) :: (argsToks (w :: vs) ++ ks))) := by
      have := h
      unfold At at this ⊢
      rw [this]
      show (valToks v ++ (4, mkB [44], 0) :: argsToks (w :: vs)) ++ ks = _
      rw [List.append_assoc]; rfl
    obtain ⟨h1, h2⟩ := At.val (e := e) (hv v (by simp)).1 (hv v (by simp)).2 h'
    obtain ⟨k2, h3, h4⟩ := At.args hks (w :: vs) f (k + (valToks v).length + 1) (acc ++ [v]) (by simp) (fun u hu => hv u (List.mem_cons_of_mem _ hu)) (by simp at hl ⊢; omega) (by simp at hf ⊢; omega) h2.next
    refine ⟨k2, ?_, h4⟩
    unfold argsN
    rw [argP_f (decide_eq_false (by simp at hl; omega)), h1]
    dsimp only
    rw [if_pos (by rw [At.isS h2 4 commaB (by decide)]; rfl), h3, List.append_assoc]; rfl
theorem valToks_len (v : Val) : 1 ≤ (valToks v).length := by
  unfold valToks
  split
  · split <;> simp
  · split <;> simp
theorem argsToks_len : ∀ vs : List Val, vs.length ≤ (argsToks vs).length
  | [] => Nat.le_refl _
  | [v] => valToks_len v
  | v :: w :: vs => by
    have h1 := argsToks_len (w :: vs)
    have h2 := valToks_len v
    show _ ≤ (valToks v ++ (4, mkB [44], 0) :: argsToks (w :: vs)).length
    rw [List.length_append, List.length_cons]
    simp only [List.length_cons] at h1 ⊢
    omega
theorem At.line {x : Fact} {ks : List Tri} {k : Nat} (hx : FactOk x) (hr : rightS x = true) (h : At toks k (lineToks x ++ ks)) : ∃ k2, factP toks e false k = .ok (x, k2) ∧ At toks k2 ks ∧ k < k2 := by
  unfold rightS at hr
  simp only [Bool.and_eq_true, decide_eq_true_eq] at hr
  obtain ⟨⟨⟨q1, q2⟩, q3⟩, q4⟩ := hr
  have h : At toks k ((1, x.1, 0) :: (4, mkB [40], 0) :: (argsToks x.2 ++ ((4, mkB [41], 0) :: (4, mkB [46], 0) :: ks))) := by
    have := h
    unfold At at this ⊢
    rw [this]
    unfold lineToks
    show (1, x.1, 0) :: (4, mkB [40], 0) :: ((argsToks x.2 ++ [(4, mkB [41], 0), (4, mkB [46], 0)]) ++ ks) = _
    rw [List.append_assoc]; rfl
  obtain ⟨p1, p2, -, p4⟩ := h.pk
  obtain ⟨-, -, -, p5⟩ := h.next.pk
  obtain ⟨k2, h3, h4⟩ := At.args (e := e) (ks := (4, mkB [41], 0) :: (4, mkB [46], 0) :: ks) (fun k h => by rw [At.isS h 4 commaB (by decide)]; rfl) x.2 (toks.length + 1) (k + 2) [] (fun q => by rw [q] at q2; simp at q2) (fun v hv => ⟨hx.2.2 v hv, List.all_eq_true.1 q4 v hv⟩) (by simpa using q3) (by
    have hl := congrArg List.length (show (toks.drop (k + 2)).map tri = _ from h.next.next)
    have := argsToks_len x.2
    rw [List.length_map, List.length_drop, List.length_append] at hl
    omega) h.next.next
  have hF : factP toks e false k = .ok (x, k2 + 2) := by
    unfold factP
    rw [if_neg (by rw [p1]; exact fun q => q rfl), p2, if_neg (by unfold nameS at q1; rw [Bool.and_eq_true, decide_eq_true_eq] at q1; omega), if_neg (by decide), if_pos (by rw [At.isS h.next 4 lparB (by decide)]; rfl), h3, factE_ok]
    unfold endP2
    rw [if_pos (by rw [At.isS h4 4 rparB (by decide)]; rfl), if_pos (by rw [At.isS h4.next 4 dotB (by decide)]; rfl)]; rfl
  exact ⟨k2 + 2, hF, h4.next.next, (factP_ok hF).1⟩
theorem At.end_ {k : Nat} (h : At toks k []) : toks.length ≤ k := by
  unfold At at h
  have := congrArg List.length h
  rw [List.length_map, List.length_drop] at this
  simp at this; omega
theorem At.lines : ∀ (l : List Fact) (f k : Nat) (acc : List Fact), (∀ x ∈ l, FactOk x ∧ rightS x = true) → acc.length + l.length ≤ 8192 → toks.length < f + k → At toks k (l.flatMap lineToks) → ∃ k2, factsN toks e f k acc = .ok (acc ++ l, k2)
  | [], f, k, acc, _, _, hf, h => by
    have := At.end_ h
    cases f with
    | zero => exact ⟨k, by rw [List.append_nil]; rfl⟩
    | succ f => exact ⟨k, by rw [factsN_stop this, List.append_nil]⟩
  | x :: l, f, k, acc, hx, hl, hf, h => by
    have h : At toks k (lineToks x ++ l.flatMap lineToks) := h
    obtain ⟨k2, h1, h2, h3⟩ := At.line (e := e) (hx x (by simp)).1 (hx x (by simp)).2 h
    have hk : k < toks.length := by
      have h' : At toks k ((1, x.1, 0) :: ((4, mkB [40], 0) :: (argsToks x.2 ++ [(4, mkB [41], 0), (4, mkB [46], 0)]) ++ l.flatMap lineToks)) := h
      exact h'.pk.2.2.2
    obtain ⟨f, rfl⟩ : ∃ f', f = f' + 1 := ⟨f - 1, by omega⟩
    obtain ⟨k3, h4⟩ := At.lines l f k2 (acc ++ [x]) (fun y hy => hx y (List.mem_cons_of_mem _ hy)) (by simp at hl ⊢; omega) (by omega) h2
    refine ⟨k3, ?_⟩
    have hb : decide (acc.length = 8192) = false := decide_eq_false (by simp at hl; omega)
    rw [factsN_go (by omega) (by rw [hb]; exact h1), h4, List.append_assoc]; rfl
end
/-- What is written of well-formed facts is read as these facts. -/
theorem parse_format {l : List Fact} (hl : ∀ x ∈ l, FactOk x ∧ rightS x = true) (hn : l.length ≤ 8192) (hs : (l.flatMap lineL).length ≤ 65536) : parseF (mkB (l.flatMap lineL)) = (setS l, ⟨0, 0⟩, 0) := by
  obtain ⟨toks, h1, h2⟩ := scanS_of (Tz.lines l hl) hs
  unfold parseF parseG
  rw [h2]
  dsimp only
  rw [if_pos rfl]
  obtain ⟨k2, h3⟩ := At.lines (toks := toks) (e := endP (mkB (l.flatMap lineL))) l (toks.length + 1) 0 [] hl (by simpa using hn) (by omega) h1
  rw [h3]; rfl
end Go.Proofs.YtmjkacgmepbljaaGreatDoor
end
/- What is read is well formed; how long its text is (no program in sight). -/
section
open Go Mk
namespace Go.Proofs.YtmjkacgmepbljaaGreatDoor
set_option maxHeartbeats 4000000
attribute [local irreducible] Calls

def TokOk (t : Tok) : Prop := (t.Kind = 1 → wordS t.Text = true) ∧ (t.Kind = 3 → allStr t.Text = true)
theorem bts_pre {s : ByteArray} {k : Nat} : bts (bSub s 0 k) = (bts s).take k := by rw [bts_sub, List.drop_zero, Nat.sub_zero]
theorem k13 : ¬ (1 : Int) = 3 := by decide
theorem k31 : ¬ (3 : Int) = 1 := by decide
theorem k21 : ¬ (2 : Int) = 1 := by decide
theorem k23 : ¬ (2 : Int) = 3 := by decide
theorem k01 : ¬ (0 : Int) = 1 := by decide
theorem k03 : ¬ (0 : Int) = 3 := by decide
theorem k41 : ¬ (4 : Int) = 1 := by decide
theorem k43 : ¬ (4 : Int) = 3 := by decide
theorem tokS_ok {s : ByteArray} (h0 : 0 < s.size) : ((tokS s).kind = 1 → wordS (tokS s).text = true) ∧ ((tokS s).kind = 3 → allStr (tokS s).text = true) := by
  unfold tokS
  by_cases h1 : letterB (byteAt s 0) = true
  · rw [if_pos h1]
    refine ⟨fun _ => ?_, fun q => absurd q k13⟩
    have hl : 0 < (bts s).length := by rw [bts_len]; exact h0
    have htw : bts (bSub s 0 (runN s)) = (bts s).takeWhile wordC := by
      rw [bts_pre]
      unfold runN
      exact (List.prefix_iff_eq_take.1 (List.takeWhile_prefix wordC)).symm
    have h1' : letterB (((bts s).getD 0 0).toNat : Int) = true := h1
    unfold wordS
    show (decide (0 < (bSub s 0 (runN s)).size) && letterB (((bts (bSub s 0 (runN s))).getD 0 0).toNat : Int) && (bts (bSub s 0 (runN s))).all wordC) = true
    rw [← bts_len, htw]
    generalize bts s = b at *
    cases b with
    | nil => simp at hl
    | cons c p =>
      have hc : letterB (c.toNat : Int) = true := h1'
      have hw : wordC c = true := by unfold wordC; rw [hc]; rfl
      rw [List.takeWhile_cons, if_pos hw]
      simp only [Bool.and_eq_true, decide_eq_true_eq]
      refine ⟨⟨by simp, hc⟩, ?_⟩
      rw [List.all_cons, hw, Bool.true_and]
      exact List.all_eq_true.2 fun x hx => List.all_eq_true.1 List.all_takeWhile x hx
  rw [if_neg h1]
  by_cases h2 : digitB (byteAt s 0) = true
  · rw [if_pos h2]
    split
    · exact ⟨fun q => absurd q k21, fun q => absurd q k23⟩
    · exact ⟨fun q => absurd q k01, fun q => absurd q k03⟩
  rw [if_neg h2]
  by_cases h3 : byteAt s 0 = 34
  · rw [if_pos h3]
    split
    · refine ⟨fun q => absurd q k31, fun _ => ?_⟩
      unfold allStr
      have : bts (bSub s 1 (strN s)) = ((bts s).drop 1).takeWhile inStrC := by
        rw [bts_sub]
        unfold strN
        rw [Nat.add_sub_cancel_left]
        exact (List.prefix_iff_eq_take.1 (List.takeWhile_prefix inStrC)).symm
      show (bts (bSub s 1 (strN s))).all inStrC = true
      rw [this]
      exact List.all_takeWhile
    · exact ⟨fun q => absurd q k01, fun q => absurd q k03⟩
  rw [if_neg h3]
  split
  · exact ⟨fun q => absurd q k01, fun q => absurd q k03⟩
  · exact ⟨fun q => absurd q k41, fun q => absurd q k43⟩
theorem scanN_ok {s : ByteArray} : ∀ (f off : Nat) (acc : List Tok), (∀ t ∈ acc, TokOk t) → ∀ t ∈ (scanN s f off acc).1, TokOk t
  | 0, off, acc, h => h
  | f + 1, off, acc, h => by
    unfold scanN
    split
    · exact h
    · rename_i h0
      split
      · exact scanN_ok f _ acc h
      · split
        · exact scanN_ok f _ acc h
        · split
          · refine scanN_ok f _ _ fun t ht => ?_
            rcases List.mem_append.1 ht with q | q
            · exact h t q
            · rw [List.mem_singleton.1 q]
              exact tokS_ok (by rw [sub_size (Nat.le_refl _)]; omega)
          · exact fun t ht => by cases ht
theorem scanS_ok {s : ByteArray} : ∀ t ∈ (scanS s).1, TokOk t := by
  unfold scanS
  split
  · exact fun t ht => by cases ht
  · exact scanN_ok _ _ [] fun t ht => by cases ht
section
variable {toks : List Tok} {e : PosT}
theorem pk_ok (h : ∀ t ∈ toks, TokOk t) (k : Nat) : TokOk (pk toks k) := by
  unfold pk
  cases hk : toks[k]? with
  | none => exact ⟨fun q => absurd q (by decide), fun q => absurd q (by decide)⟩
  | some t => exact h t (List.mem_of_getElem? hk)
theorem word_str {t : ByteArray} (h : wordS t = true) : allStr t = true := by
  unfold wordS at h
  simp only [Bool.and_eq_true] at h
  have h2 : (bts t).all wordC = true := h.2
  refine List.all_eq_true.2 fun c hc => ?_
  have := List.all_eq_true.1 h2 c hc
  unfold wordC letterB digitB at this
  unfold inStrC inStr
  simp only [Bool.or_eq_true, Bool.and_eq_true, decide_eq_true_eq] at this ⊢
  omega
theorem argP_right (h : ∀ t ∈ toks, TokOk t) {b : Bool} {k k1 : Nat} {v : Val} (hA : argP toks e b k = .ok (v, k1)) : rightV v = true := by
  have hp := pk_ok h k
  unfold argP at hA
  split at hA
  · cases hA
  split at hA
  · rename_i hk
    split at hA
    · cases hA
    · rename_i hn
      split at hA
      · cases hA
      · cases hA
        have hs : allStr (pk toks k).Text = true := hk.elim (fun q => word_str (hp.1 q)) hp.2
        unfold rightV textS
        have h1 : 0 < (pk toks k).Text.size := by
          rcases Nat.eq_zero_or_pos (pk toks k).Text.size with q | q
          · exact absurd (.inl (bts_ext (List.eq_nil_of_length_eq_zero (by rw [bts_len]; exact q)))) hn
          · exact q
        have h2 : (pk toks k).Text.size ≤ 24 := Nat.le_of_not_lt fun q => hn (.inr q)
        simp [hs, h1, h2]
  split at hA
  · cases hA
  split at hA
  · cases hA
  cases hI : intP toks e (decide ((pk toks k).Kind = 4)) (if (pk toks k).Kind = 4 then k + 1 else k) with
  | error q => rw [hI] at hA; cases hA
  | ok q =>
    obtain ⟨x, k2⟩ := q
    rw [hI] at hA
    cases hA
    rfl
theorem argsN_right (h : ∀ t ∈ toks, TokOk t) : ∀ (f k : Nat) (acc : List Val) {vs : List Val} {k2 : Nat}, (∀ v ∈ acc, rightV v = true) → argsN toks e (f + 1) k acc = .ok (vs, k2) → (∀ v ∈ vs, rightV v = true) ∧ k + 2 * vs.length ≤ k2 + 1 + 2 * acc.length ∧ acc.length < vs.length
  | f, k, acc, vs, k2, hv, hN => by
    unfold argsN at hN
    cases hA : argP toks e (decide (acc.length = 8)) k with
    | error q => rw [hA] at hN; cases hN
    | ok q =>
      obtain ⟨v, k1⟩ := q
      rw [hA] at hN
      obtain ⟨h1, h2, -⟩ := argP_ok hA
      have hv2 : ∀ u ∈ acc ++ [v], rightV u = true := fun u hu => by
        rcases List.mem_append.1 hu with q | q
        · exact hv u q
        · rw [List.mem_singleton.1 q]; exact argP_right h hA
      dsimp only at hN
      split at hN
      · cases f with
        | zero =>
          cases hN
          exact ⟨hv2, by simp; omega, by simp⟩
        | succ f =>
          obtain ⟨a1, a2, a3⟩ := argsN_right h f _ _ hv2 hN
          simp at a2 a3
          exact ⟨a1, by omega, by omega⟩
      · cases hN
        exact ⟨hv2, by simp; omega, by simp⟩
def wgt (x : Fact) : Nat := 2 * x.2.length + 3
theorem factP_right (h : ∀ t ∈ toks, TokOk t) {b : Bool} {k k1 : Nat} {x : Fact} (hF : factP toks e b k = .ok (x, k1)) : rightS x = true ∧ k + wgt x ≤ k1 := by
  have hp := pk_ok h k
  have hok := factP_ok hF
  unfold factP at hF
  split at hF
  · cases hF
  rename_i hk
  split at hF
  · cases hF
  rename_i hsz
  split at hF
  · cases hF
  split at hF
  · cases hA : argsN toks e (toks.length + 1) (k + 2) [] with
    | error q => rw [hA] at hF; cases hF
    | ok q =>
      obtain ⟨vs, k2⟩ := q
      rw [hA] at hF
      obtain ⟨h1, h2, h3⟩ := argsN_right h _ _ [] (fun v hv => by cases hv) hA
      have hE : endP2 toks e ((pk toks k).Text, vs) k2 = .ok (x, k1) := hF
      unfold endP2 at hE
      split at hE
      · split at hE
        · cases hE
          have hl : vs.length ≤ 8 := hok.2.2.2.1
          refine ⟨?_, by unfold wgt; simp at h2 ⊢; omega⟩
          unfold rightS nameS
          have hw := hp.1 (Classical.not_not.1 hk)
          have hz : (pk toks k).Text.size ≤ 24 := Nat.le_of_not_lt hsz
          simp only [hw, Bool.and_eq_true, decide_eq_true_eq, Bool.true_and, List.all_eq_true]
          simp at h3
          exact ⟨⟨⟨hz, by omega⟩, hl⟩, h1⟩
        · cases hE
      · cases hE
  · cases hF
def wgts (l : List Fact) : Nat := (l.map wgt).sum
theorem factsN_right (h : ∀ t ∈ toks, TokOk t) : ∀ (f k : Nat) (acc : List Fact) {l : List Fact} {k2 : Nat}, (∀ x ∈ acc, FactOk x ∧ rightS x = true) → k ≤ toks.length → factsN toks e f k acc = .ok (l, k2) → (∀ x ∈ l, FactOk x ∧ rightS x = true) ∧ k + wgts l ≤ k2 + wgts acc ∧ k2 ≤ toks.length
  | 0, k, acc, l, k2, ha, hk, hN => by
    cases hN
    exact ⟨ha, Nat.le_refl _, hk⟩
  | f + 1, k, acc, l, k2, ha, hk, hN => by
    unfold factsN at hN
    split at hN
    · cases hN
      exact ⟨ha, Nat.le_refl _, hk⟩
    · cases hF : factP toks e (decide (acc.length = 8192)) k with
      | error q => rw [hF] at hN; cases hN
      | ok q =>
        obtain ⟨x, k1⟩ := q
        rw [hF] at hN
        obtain ⟨t1, t2, t3, t4, t5⟩ := factP_ok hF
        obtain ⟨r1, r2⟩ := factP_right h hF
        obtain ⟨a1, a2, a3⟩ := factsN_right h f k1 (acc ++ [x]) (fun y hy => by
          rcases List.mem_append.1 hy with q | q
          · exact ha y q
          · rw [List.mem_singleton.1 q]; exact ⟨t5, r1⟩) t2 hN
        refine ⟨a1, ?_, a3⟩
        unfold wgts at a2 ⊢
        rw [List.map_append, List.sum_append] at a2
        simp at a2
        omega
end
theorem wgts_cons {x : Fact} {l : List Fact} : wgts (x :: l) = wgt x + wgts l := by unfold wgts; rw [List.map_cons, List.sum_cons]
theorem len_wgts : ∀ l : List Fact, l.length ≤ wgts l
  | [] => Nat.zero_le _
  | x :: l => by
    have h1 := len_wgts l
    have h2 : 3 ≤ wgt x := Nat.le_add_left _ _
    rw [wgts_cons, List.length_cons]; omega
theorem wgts_ins {f : Fact} : ∀ {l : List Fact}, wgts (insA cFact f l) ≤ wgt f + wgts l
  | [] => by unfold insA wgts; simp
  | x :: l => by
    have ih := wgts_ins (f := f) (l := l)
    unfold insA
    unfold wgts at *
    split
    · simp
    · split
      · simp
      · simp only [List.map_cons, List.sum_cons]; omega
theorem wgts_set : ∀ {l : List Fact}, wgts (setS l) ≤ wgts l
  | [] => Nat.le_refl _
  | f :: l => by
    have ih := wgts_set (l := l)
    have h := wgts_ins (f := f) (l := setS l)
    show wgts (insA cFact f (setS l)) ≤ wgt f + wgts l
    omega
theorem argsL_len : ∀ vs : List Val, (∀ v ∈ vs, ValOk v ∧ rightV v = true) → (argsL vs).length ≤ 32 * vs.length
  | [], _ => Nat.le_refl _
  | [v], h => by
    have := valS_len (h v (by simp)).1 (h v (by simp)).2
    show (bts (valS v)).length ≤ _
    rw [bts_len]; simp; omega
  | v :: w :: vs, h => by
    have ih := argsL_len (w :: vs) fun u hu => h u (List.mem_cons_of_mem _ hu)
    have := valS_len (h v (by simp)).1 (h v (by simp)).2
    show (bts (valS v) ++ 44 :: 32 :: argsL (w :: vs)).length ≤ _
    rw [List.length_append, bts_len, List.length_cons, List.length_cons]
    simp only [List.length_cons] at ih ⊢
    omega
theorem lineL_len {x : Fact} (hx : FactOk x) (hr : rightS x = true) : (lineL x).length ≤ 15 * wgt x := by
  unfold rightS at hr
  simp only [Bool.and_eq_true, decide_eq_true_eq] at hr
  obtain ⟨⟨⟨q1, q2⟩, q3⟩, q4⟩ := hr
  have h1 := argsL_len x.2 fun v hv => ⟨hx.2.2 v hv, List.all_eq_true.1 q4 v hv⟩
  have h2 : x.1.size ≤ 24 := by unfold nameS at q1; rw [Bool.and_eq_true, decide_eq_true_eq] at q1; exact q1.2
  have hL : (lineL x).length = x.1.size + 1 + (argsL x.2).length + 3 := by
    show (bts (lineB x)).length = _
    unfold lineB
    rw [bts_ap, bts_ap, bts_ap, argsL_join, List.length_append, List.length_append, List.length_append, bts_len]
    rfl
  rw [hL]
  unfold wgt
  omega
theorem lines_wlen : ∀ {l : List Fact}, (∀ x ∈ l, FactOk x ∧ rightS x = true) → (l.flatMap lineL).length ≤ 15 * wgts l
  | [], _ => Nat.zero_le _
  | x :: l, h => by
    have ih := lines_wlen (l := l) fun y hy => h y (List.mem_cons_of_mem _ hy)
    have h1 := lineL_len (h x (by simp)).1 (h x (by simp)).2
    rw [List.flatMap_cons, List.length_append]
    unfold wgts at *
    rw [List.map_cons, List.sum_cons]
    omega
/-- Well-formed facts are written and read back. -/
theorem back_right {D : List Fact} (hD : ∀ x ∈ D, FactOk x ∧ rightS x = true) (hw : wgts D ≤ 4000) (hn : D.length ≤ 8192) : formatF D = mkB ((setS D).flatMap lineL) ∧ parseF (formatF D) = (setS D, ⟨0, 0⟩, 0) := by
  have hS : ∀ x ∈ setS D, FactOk x ∧ rightS x = true := fun x hx => hD x (setS_mem.1 hx)
  have hF : formatF D = mkB ((setS D).flatMap lineL) := by
    unfold formatF formatL
    rw [if_pos (List.all_eq_true.2 fun x hx => (hS x hx).2)]; rfl
  refine ⟨hF, ?_⟩
  have h1 := lines_wlen hS
  have h2 := wgts_set (l := D)
  have h3 := setS_len (l := D)
  rw [hF, parse_format hS (by omega) (by omega)]
  have : setS (setS D) = setS D := setA_idem cFact_ord D
  rw [this]
theorem format_wrong {D : List Fact} (h : D.all rightS = false) : formatF D = ⟨#[]⟩ := by
  unfold formatF formatL
  rw [if_neg]
  intro q
  have : D.all rightS = true := List.all_eq_true.2 fun x hx => List.all_eq_true.1 q x (setS_mem.2 hx)
  rw [h] at this; cases this
theorem parse_err {s : ByteArray} (h : (parseF s).2.2 ≠ 0) : (parseF s).1 = [] := by
  unfold parseF parseG at *
  split
  · rename_i h0
    rw [if_pos h0] at h
    cases hF : factsN (scanS s).1 (endP s) ((scanS s).1.length + 1) 0 [] with
    | ok q => rw [hF] at h; exact absurd rfl h
    | error q => rfl
  · rfl
/-- The text of what is read is read as the same. -/
theorem parse_again {s : ByteArray} (hs : s.size ≤ 2000) (h : (parseF s).2.2 = 0) : parseF (formatF (parseF s).1) = ((parseF s).1, ⟨0, 0⟩, 0) ∧ (parseF s).1.length ≤ 2000 ∧ ∀ x ∈ (parseF s).1, FactOk x := by
  have hlen : (scanS s).1.length ≤ s.size := by
    unfold scanS
    rw [if_neg (by omega)]
    have := scanN_len (s := s) (f := s.size + 1) (off := 0) (acc := []) (Nat.zero_le _)
    simpa using this
  unfold parseF parseG at h
  have h0 : (scanS s).2.2 = 0 := by
    by_cases q : (scanS s).2.2 = 0
    · exact q
    · rw [if_neg q] at h; exact h
  rw [if_pos h0] at h
  have hP : parseF s = factsE (factsN (scanS s).1 (endP s) ((scanS s).1.length + 1) 0 []) := by
    unfold parseF parseG
    rw [if_pos h0]
  rw [hP]
  cases hF : factsN (scanS s).1 (endP s) ((scanS s).1.length + 1) 0 [] with
  | error q =>
    obtain ⟨p, er⟩ := q
    obtain ⟨-, h6⟩ := back_right (D := []) (fun x hx => by cases hx) (Nat.zero_le _) (Nat.zero_le _)
    exact ⟨h6, Nat.zero_le _, fun x hx => by cases hx⟩
  | ok q =>
    obtain ⟨l, k2⟩ := q
    obtain ⟨a1, a2, a3⟩ := factsN_right scanS_ok _ _ [] (fun x hx => by cases hx) (Nat.zero_le _) hF
    show parseF (formatF (setS l)) = (setS l, ⟨0, 0⟩, 0) ∧ (setS l).length ≤ 2000 ∧ ∀ x ∈ setS l, FactOk x
    have hw : wgts l ≤ 2000 := by
      have : wgts [] = 0 := rfl
      omega
    have h3 := setS_len (l := l)
    have h4 := wgts_set (l := l)
    have h5 := len_wgts l
    have hS : ∀ x ∈ setS l, FactOk x ∧ rightS x = true := fun x hx => a1 x (setS_mem.1 hx)
    obtain ⟨-, h6⟩ := back_right hS (by omega) (by omega)
    have : setS (setS l) = setS l := setA_idem cFact_ord l
    rw [this] at h6
    exact ⟨h6, by omega, fun x hx => (hS x hx).1⟩
end Go.Proofs.YtmjkacgmepbljaaGreatDoor
end
/- The reference's facts of a text: Parse. -/
section
open Go Mk
namespace Go.Proofs.YtmjkacgmepbljaaGreatDoor
set_option maxHeartbeats 16000000
attribute [local irreducible] Calls posAt endP scanS factP isS cFact

abbrev posB (b : Nat) (p : PosT) : Res := .blk b (.cells (enc p).toArray 33)
def fctB (b : Nat) (r : ByteArray) (v : Value) : Res := .blk b (.cells #[.string r, v] 24)
abbrev ownV (v : Value) (vs : List Val) : Res := .own v 30 3 (vs.map enc)
abbrev ownF (v : Value) (gs : List FactH) : Res := .own v 24 2 (gs.map cF)
section
variable {Γ : Gho} {S : List Res} {w : World}
theorem RParse_any (s : ByteArray) [hs : SZ s] (hw : Wd Γ S w) :
    Calls Tryz.prog 12 #[.string s] w (ParseOut Γ S (parseF s)) := by
  refine calls_of_WC Tryz.func12 rfl rfl ?_
  repeat (first | refine byW ?_ | (refine byV ?_; intro w hw))
  refine lAlloc ?_
  intro b3 w hw
  have hw : Wd Γ (posB b3 ⟨0, 0⟩ :: S) w := hw
  repeat (first | refine byW ?_ | (refine byV ?_; intro w hw))
  refine lCall ?_
  refine (Open_any s hs.h hw).mono ?_
  clear hw
  rintro r w ⟨Γ1, bp, a, n, c, hle, rfl, ht, hw⟩
  refine ⟨_, rfl, ?_⟩
  obtain ⟨hn, hnc, hc⟩ := ht.len
  have hbig := ht.big
  unfold parseF
  generalize scanS s = q at *
  obtain ⟨toks, p1, e1⟩ := q
  dsimp only at ht hw hn ⊢
  have hnil : Wd Γ1 (rpB bp s a n c ⟨0, p1, e1⟩ :: ownF (.slice none 0 0) [] :: posB b3 ⟨0, 0⟩ :: S) w := (Wd.addNil hw).ps [1]
  clear hw
  have hw := hnil
  clear hnil
  repeat (first | refine byW ?_ | (refine byV ?_; intro w hw))
  refine W_loop (fun μ ρ w => ∃ (Γ2 : Gho) (σ : RS) (gs : List FactH) (vo : Value) (f : Nat), μ = (if σ.er = 0 then n - σ.I + 1 else 0) ∧ σ.I ≤ n ∧ Γ1.le Γ2 ∧ gs.length ≤ 8193 ∧ Has ρ [(3, .pointer (some ⟨b3, 0, none⟩)), (5, .pointer (some ⟨bp, 0, none⟩)), (6, vo)] ∧ ((σ.er = 0 ∧ FsOk Γ2 gs ∧ gs.length ≤ 8192 ∧ n < f + σ.I ∧ parseG (toks, p1, e1) (endP s) = factsE (factsN toks (endP s) f σ.I (facts gs))) ∨ (σ.er ≠ 0 ∧ parseG (toks, p1, e1) (endP s) = ([], σ.p, σ.er))) ∧ Wd Γ2 (rpB bp s a n c σ :: ownF vo gs :: posB b3 ⟨0, 0⟩ :: S) w) (if e1 = 0 then n - 0 + 1 else 0) ⟨Γ1, ⟨0, p1, e1⟩, [], _, n + 1, rfl, by show 0 ≤ n; omega, Gho.le.refl _, by simp, ⟨rfl, rfl, rfl, trivial⟩, ?_, hw⟩ ?_
  · by_cases h0 : e1 = 0
    · refine .inl ⟨h0, (fun x hx => by cases hx), by simp, by show n < n + 1 + 0; omega, ?_⟩
      unfold parseG
      rw [if_pos h0, hn]; rfl
    · refine .inr ⟨h0, ?_⟩
      unfold parseG
      rw [if_neg h0]
  clear hw
  rintro μ ρ w ⟨Γ2, σ, gs, vo, f, hμ, hI, hle2, hgl, hρ, hst, hw⟩
  rw [hρ.eq]
  haveI hT2 : RTok Γ2 a n c toks := ht.mono hle2
  repeat (first | refine byW ?_ | (refine byV ?_; intro w hw) | (apply L_plain; apply L_go; refine lPs ?_; intro w hw) | (apply L_guarded; apply L_go; refine lPsG ?_; intro w hw))
  refine W_cond rfl (fun h1 => ?_) (fun h1 => ?_)
  · have h1 : (decide (σ.er = 0) && !decide ((n : Int) ≤ σ.I)) = true := h1
    rw [Bool.and_eq_true, decide_eq_true_eq, Bool.not_eq_true', decide_eq_false_iff_not] at h1
    obtain ⟨h0, hIn⟩ := h1
    obtain ⟨-, hok, hgl2, hf, hP⟩ := hst.resolve_right fun q => q.1 h0
    obtain ⟨f, rfl⟩ : ∃ f', f = f' + 1 := ⟨f - 1, by omega⟩
    have hb : decide (8192 ≤ gs.length) = decide ((facts gs).length = 8192) := decide_eq_decide.2 (by unfold facts; rw [List.length_map]; omega)
    have hH := head_st (toks := toks) (e := endP s) h0 (decide ((facts gs).length = 8192))
    have hN1 := nameR_I (toks := toks) (e := endP s) (τ := σ) (kind := 1) (by omega)
    have hN3 := nameR_pos (toks := toks) (e := endP s) (σ := σ) (kind := 1)
    repeat (first | refine byW ?_ | (refine byV ?_; intro w hw))
    refine lCall ?_
    refine (Name_any 1 hI hw).mono ?_
    clear hw
    rintro r w ⟨rfl, hw⟩
    refine ⟨_, rfl, ?_⟩
    generalize nameR toks (endP s) σ 1 = qn at *
    obtain ⟨nm, τ⟩ := qn
    dsimp only at hH hN1 hN3 hw ⊢
    repeat (first | refine byW ?_ | (refine byV ?_; intro w hw))
    refine lAlloc ?_
    intro b7 w hw
    refine lStore ?_
    intro w hw
    have hw : Wd Γ2 (rpB bp s a n c τ :: fctB b7 nm (.slice none 0 0) :: ownF vo gs :: posB b3 ⟨0, 0⟩ :: S) w := hw.ps [1]
    have hw5 := hw
    clear hw
    obtain ⟨ao, no, co, rfl, hno, hnoc, hco⟩ := hw5.own_shape (i := 2) rfl
    simp only [List.length_map] at hno
    have hw := hw5
    clear hw5
    repeat (first | refine byW ?_ | (refine byV ?_; intro w hw))
    refine W_cutT (fun ρ w => Has ρ [(3, .pointer (some ⟨b3, 0, none⟩)), (5, .pointer (some ⟨bp, 0, none⟩)), (6, .slice ao no co), (7, .pointer (some ⟨b7, 0, none⟩))] ∧ Wd Γ2 (rpB bp s a n c (limS toks (endP s) (decide ((facts gs).length = 8192)) τ) :: fctB b7 nm (.slice none 0 0) :: ownF (.slice ao no co) gs :: posB b3 ⟨0, 0⟩ :: S) w) ?_ ?_
    · refine W_cond rfl (fun h5 => ?_) (fun h5 => ?_)
      · have hB : decide ((facts gs).length = 8192) = true := by rw [← hb]; exact decide_eq_true (by have := of_decide_eq_true h5; omega)
        have hE : limS toks (endP s) true τ = failS toks (endP s) τ (τ.I - 1) 15 := if_pos rfl
        rw [hB, hE]
        repeat (first | refine byW ?_ | (refine byV ?_; intro w hw))
        refine lCall ?_
        refine (Fail_any ((τ.I : Int) - 1) (τ.I - 1) 15 (fun h0 => by have := hN3 h0; omega) hw).mono ?_
        clear hw
        rintro r w ⟨rfl, hw⟩
        refine ⟨_, rfl, ?_⟩
        repeat (first | refine byW ?_ | (refine byV ?_; intro w hw))
        exact ⟨⟨rfl, rfl, rfl, rfl, trivial⟩, hw⟩
      · have hB : decide ((facts gs).length = 8192) = false := by rw [← hb]; exact decide_eq_false (by have := of_decide_eq_false h5; omega)
        have hE : limS toks (endP s) false τ = τ := if_neg (by decide)
        rw [hB, hE]
        repeat (first | refine byW ?_ | (refine byV ?_; intro w hw))
        exact ⟨⟨rfl, rfl, rfl, rfl, trivial⟩, hw⟩
    clear hw
    rintro ρ w ⟨hρ, hw⟩
    rw [hρ.eq]
    repeat (first | refine byW ?_ | (refine byV ?_; intro w hw))
    refine lCall ?_
    refine (Need_any 4 lparB hw).mono ?_
    clear hw
    rintro r w ⟨rfl, hw⟩
    refine ⟨_, rfl, ?_⟩
    have hI3 := needS_I (e := endP s) (kind := 4) (text := lparB) (toks := toks) (σ := limS toks (endP s) (decide ((facts gs).length = 8192)) τ) (by rw [limS_I]; exact hN1)
    generalize needS toks (endP s) (limS toks (endP s) (decide ((facts gs).length = 8192)) τ) 4 lparB = σ3 at *
    refine L_nil ?_
    refine W_seq ?_
    refine W_cutT (fun ρ w => ∃ (σ4 : RS) (vs : List Val) (va : Value), σ4.I ≤ n ∧ Has ρ [(3, .pointer (some ⟨b3, 0, none⟩)), (5, .pointer (some ⟨bp, 0, none⟩)), (6, .slice ao no co), (7, .pointer (some ⟨b7, 0, none⟩))] ∧ Goes (factP toks (endP s) (decide ((facts gs).length = 8192)) σ.I) σ4 (endP2 toks (endP s) (nm, vs)) ∧ Wd Γ2 (rpB bp s a n c σ4 :: fctB b7 nm va :: ownV va vs :: ownF (.slice ao no co) gs :: posB b3 ⟨0, 0⟩ :: S) w) ?_ ?_
    · have hw : Wd Γ2 (rpB bp s a n c σ3 :: fctB b7 nm (.slice none 0 0) :: ownV (.slice none 0 0) [] :: ownF (.slice ao no co) gs :: posB b3 ⟨0, 0⟩ :: S) w := (Wd.addNil hw).ps [2, 2]
      repeat (first | refine byW ?_ | (refine byV ?_; intro w hw))
      refine W_loop (fun μ ρ w => ∃ (σ4 : RS) (vs : List Val) (va : Value) (g : Nat), μ + σ4.I = n ∧ Has ρ [(3, .pointer (some ⟨b3, 0, none⟩)), (5, .pointer (some ⟨bp, 0, none⟩)), (6, .slice ao no co), (7, .pointer (some ⟨b7, 0, none⟩))] ∧ ((σ4.er = 0 ∧ vs.length ≤ 8 ∧ n < g + σ4.I ∧ factP toks (endP s) (decide ((facts gs).length = 8192)) σ.I = factE toks (endP s) nm (argsN toks (endP s) g σ4.I vs)) ∨ (σ4.er ≠ 0 ∧ factP toks (endP s) (decide ((facts gs).length = 8192)) σ.I = .error (σ4.p, σ4.er))) ∧ Wd Γ2 (rpB bp s a n c σ4 :: fctB b7 nm va :: ownV va vs :: ownF (.slice ao no co) gs :: posB b3 ⟨0, 0⟩ :: S) w) (n - σ3.I) ⟨σ3, [], .slice none 0 0, n + 1, by omega, ⟨rfl, rfl, rfl, rfl, trivial⟩, ?_, hw⟩ ?_
      · rcases hH with ⟨q1, q2⟩ | q
        · exact .inl ⟨q1, by simp, by omega, by rw [q2, hn]⟩
        · exact .inr q
      clear hw hH hI3
      rintro μ3 ρ w ⟨σ4, vs, va, g, hμ3, hρ, hin, hw⟩
      rw [hρ.eq]
      obtain ⟨aa, na, ca, rfl, hna, hnac, hca⟩ := hw.own_shape (i := 2) rfl
      simp only [List.length_map] at hna
      repeat (first | refine byW ?_ | (refine byV ?_; intro w hw) | (apply L_plain; apply L_go; refine lPs ?_; intro w hw) | (apply L_guarded; apply L_go; refine lPsG ?_; intro w hw))
      refine W_cond rfl (fun h6 => ?_) (fun h6 => ?_)
      · have h60 : σ4.er = 0 := of_decide_eq_true h6
        obtain ⟨-, hvl, hg, hP4⟩ := hin.resolve_right fun q => q.1 h60
        obtain ⟨g, rfl⟩ : ∃ g', g = g' + 1 := ⟨g - 1, by omega⟩
        have hb8 : decide ((8 : Int) ≤ na) = decide (vs.length = 8) := decide_eq_decide.2 (by omega)
        have hEnd := argB_st (toks := toks) (e := endP s) h60 (decide (vs.length = 8))
        have hBI := argB_I (toks := toks) (e := endP s) (σ := σ4) (b := decide (vs.length = 8)) (by omega)
        repeat (first | refine byW ?_ | (refine byV ?_; intro w hw) | (apply L_plain; apply L_go; refine lPs ?_; intro w hw) | (apply L_guarded; apply L_go; refine lPsG ?_; intro w hw))
        rw [hb8]
        refine W_cutT (fun ρ w => Has ρ [(3, .pointer (some ⟨b3, 0, none⟩)), (5, .pointer (some ⟨bp, 0, none⟩)), (6, .slice ao no co), (7, .pointer (some ⟨b7, 0, none⟩)), (8, .int .i64 (σ4.I : Nat))] ∧ Wd Γ2 (rpB bp s a n c (if (decide (vs.length = 8) && (decide (σ4.er = 0) && isS toks σ4.I 4 dashB)) = true then failS toks (endP s) σ4 σ4.I 15 else σ4) :: fctB b7 nm (.slice aa na ca) :: ownV (.slice aa na ca) vs :: ownF (.slice ao no co) gs :: posB b3 ⟨0, 0⟩ :: S) w) ?_ ?_
        · refine W_cond rfl (fun h7 => ?_) (fun h7 => ?_)
          · have h7 : (decide (vs.length = 8) && (decide (σ4.er = 0) && isS toks σ4.I 4 dashB)) = true := h7
            rw [if_pos h7]
            repeat (first | refine byW ?_ | (refine byV ?_; intro w hw))
            refine lCall ?_
            refine (Fail_any (σ4.I : Int) σ4.I 15 (fun _ => rfl) hw).mono ?_
            clear hw
            rintro r w ⟨rfl, hw⟩
            refine ⟨_, rfl, ?_⟩
            repeat (first | refine byW ?_ | (refine byV ?_; intro w hw))
            exact ⟨⟨rfl, rfl, rfl, rfl, rfl, trivial⟩, hw⟩
          · have h7 : (decide (vs.length = 8) && (decide (σ4.er = 0) && isS toks σ4.I 4 dashB)) = false := h7
            rw [if_neg (by rw [h7]; decide)]
            repeat (first | refine byW ?_ | (refine byV ?_; intro w hw))
            exact ⟨⟨rfl, rfl, rfl, rfl, rfl, trivial⟩, hw⟩
        clear hw
        rintro ρ w ⟨hρ, hw⟩
        rw [hρ.eq]
        repeat (first | refine byW ?_ | (refine byV ?_; intro w hw))
        refine lCall ?_
        refine (Argument_any (by split <;> first | (rw [failS_I]; omega) | omega) hw).mono ?_
        clear hw
        rintro r w ⟨rfl, hw⟩
        refine ⟨_, rfl, ?_⟩
        refine lAlloc ?_
        intro b9 w hw
        refine lStore ?_
        intro w hw
        have hAB : argB toks (endP s) σ4 (decide (vs.length = 8)) = ((argR toks (endP s) (if (decide (vs.length = 8) && (decide (σ4.er = 0) && isS toks σ4.I 4 dashB)) = true then failS toks (endP s) σ4 σ4.I 15 else σ4)).1, if decide (vs.length = 8) = true then failS toks (endP s) (argR toks (endP s) (if (decide (vs.length = 8) && (decide (σ4.er = 0) && isS toks σ4.I 4 dashB)) = true then failS toks (endP s) σ4 σ4.I 15 else σ4)).2 σ4.I 15 else (argR toks (endP s) (if (decide (vs.length = 8) && (decide (σ4.er = 0) && isS toks σ4.I 4 dashB)) = true then failS toks (endP s) σ4 σ4.I 15 else σ4)).2) := rfl
        generalize argR toks (endP s) (if (decide (vs.length = 8) && (decide (σ4.er = 0) && isS toks σ4.I 4 dashB)) = true then failS toks (endP s) σ4 σ4.I 15 else σ4) = qa at *
        have hw : Wd Γ2 (rpB bp s a n c qa.2 :: fctB b7 nm (.slice aa na ca) :: ownV (.slice aa na ca) vs :: .blk b9 (.cells (enc qa.1).toArray 30) :: ownF (.slice ao no co) gs :: posB b3 ⟨0, 0⟩ :: S) w := hw.ps [3, 3, 3]
        repeat (first | refine byW ?_ | (refine byV ?_; intro w hw))
        refine W_cutT (fun ρ w => Has ρ [(3, .pointer (some ⟨b3, 0, none⟩)), (5, .pointer (some ⟨bp, 0, none⟩)), (6, .slice ao no co), (7, .pointer (some ⟨b7, 0, none⟩)), (9, .pointer (some ⟨b9, 0, none⟩))] ∧ Wd Γ2 (rpB bp s a n c (if decide (vs.length = 8) = true then failS toks (endP s) qa.2 σ4.I 15 else qa.2) :: fctB b7 nm (.slice aa na ca) :: ownV (.slice aa na ca) vs :: .blk b9 (.cells (enc qa.1).toArray 30) :: ownF (.slice ao no co) gs :: posB b3 ⟨0, 0⟩ :: S) w) ?_ ?_
        · refine W_cond rfl (fun h7 => ?_) (fun h7 => ?_)
          · have h7 : decide (vs.length = 8) = true := by rw [← hb8]; exact h7
            rw [if_pos h7]
            repeat (first | refine byW ?_ | (refine byV ?_; intro w hw))
            refine lCall ?_
            refine (Fail_any (σ4.I : Int) σ4.I 15 (fun _ => rfl) hw).mono ?_
            clear hw
            rintro r w ⟨rfl, hw⟩
            refine ⟨_, rfl, ?_⟩
            repeat (first | refine byW ?_ | (refine byV ?_; intro w hw))
            exact ⟨⟨rfl, rfl, rfl, rfl, rfl, trivial⟩, hw⟩
          · have h7 : decide (vs.length = 8) = false := by rw [← hb8]; exact h7
            rw [if_neg (by rw [h7]; decide)]
            repeat (first | refine byW ?_ | (refine byV ?_; intro w hw))
            exact ⟨⟨rfl, rfl, rfl, rfl, rfl, trivial⟩, hw⟩
        clear hw
        rintro ρ w ⟨hρ, hw⟩
        rw [hρ.eq]
        have hv1 : qa.1 = (argB toks (endP s) σ4 (decide (vs.length = 8))).1 := by rw [hAB]
        have hv2 : (if decide (vs.length = 8) = true then failS toks (endP s) qa.2 σ4.I 15 else qa.2) = (argB toks (endP s) σ4 (decide (vs.length = 8))).2 := by rw [hAB]
        rw [hv1, hv2] at hw
        clear hAB hv1 hv2
        generalize argB toks (endP s) σ4 (decide (vs.length = 8)) = qb at *
        obtain ⟨v, σ7⟩ := qb
        dsimp only at hw hBI hEnd
        repeat (first | refine byW ?_ | (refine byV ?_; intro w hw))
        refine lBuildSlice [enc v] ?_
        intro a63 w hw
        refine lApp (i := 3) (rows2 := [enc v]) ?_ (Wd.own_rd (i := 0) hw rfl)
        intro v' w hw
        obtain ⟨a64, n64, c64, rfl, -, -, -⟩ := hw.own_shape (i := 3) rfl
        repeat (first | refine byW ?_ | (refine byV ?_; intro w hw))
        refine lStore (i := 2) ?_
        intro w hw
        have hw : Wd Γ2 (rpB bp s a n c σ7 :: fctB b7 nm (.slice a64 n64 c64) :: .own (.slice a64 n64 c64) 30 3 (vs.map enc ++ [enc v]) :: ownF (.slice ao no co) gs :: posB b3 ⟨0, 0⟩ :: S) w := hw.ds [0, 3]
        rw [show vs.map enc ++ [enc v] = (vs ++ [v]).map enc from by simp] at hw
        repeat (first | refine byW ?_ | (refine byV ?_; intro w hw))
        refine lCall ?_
        refine (Take_any 4 commaB hw).mono ?_
        clear hw
        rintro r w ⟨rfl, hw⟩
        refine ⟨_, rfl, ?_⟩
        have hX : argsN toks (endP s) (g + 1) σ4.I vs = match argP toks (endP s) (decide (vs.length = 8)) σ4.I with
          | .error q => .error q
          | .ok (v, k1) => if isS toks k1 4 commaB = true then argsN toks (endP s) g (k1 + 1) (vs ++ [v]) else .ok (vs ++ [v], k1) := rfl
        rw [hX] at hP4
        clear hX
        cases hA : argP toks (endP s) (decide (vs.length = 8)) σ4.I with
        | error q =>
          obtain ⟨p', er'⟩ := q
          rw [hA] at hEnd hP4
          obtain ⟨t1, t2, t3⟩ := hEnd
          have t1 : σ7.p = p' := t1
          have t2 : σ7.er = er' := t2
          have h70 : σ7.er ≠ 0 := by rw [t2]; exact t3
          have hT : (decide (σ7.er = 0) && isS toks σ7.I 4 commaB) = false := by rw [decide_eq_false h70, Bool.false_and]
          have hT2 : takeS toks σ7 4 commaB = σ7 := by unfold takeS; rw [if_neg (by rw [hT]; decide)]
          rw [hT2] at hw
          rw [hT]
          repeat (first | refine byW ?_ | (refine byV ?_; intro w hw))
          refine W_cond_true rfl ?_
          repeat (first | refine byW ?_ | (refine byV ?_; intro w hw))
          exact ⟨σ7, vs ++ [v], (.slice a64 n64 c64), by omega, ⟨rfl, rfl, rfl, rfl, trivial⟩, .inr ⟨h70, by rw [hP4, t1, t2]; rfl⟩, hw⟩
        | ok q =>
          obtain ⟨v2, k1⟩ := q
          obtain ⟨t1, t2, t3⟩ := argP_ok hA
          have t3 : ¬ vs.length = 8 := of_decide_eq_false t3
          rw [hA] at hEnd hP4
          have hEnd : (v, σ7) = (v2, (⟨k1, σ4.p, 0⟩ : RS)) := hEnd
          obtain ⟨rfl, rfl⟩ := Prod.mk.inj hEnd
          dsimp only at hP4
          cases hc : isS toks k1 4 commaB with
          | true =>
            have hT2 : takeS toks ⟨k1, σ4.p, 0⟩ 4 commaB = ⟨k1 + 1, σ4.p, 0⟩ := takeS_t rfl hc
            rw [hT2] at hw
            rw [show (decide ((⟨k1, σ4.p, 0⟩ : RS).er = 0) && true) = true from rfl]
            rw [hc, if_pos rfl] at hP4
            have hlt := isS_lt hc
            repeat (first | refine byW ?_ | (refine byV ?_; intro w hw))
            refine W_cond_false rfl ?_
            repeat (first | refine byW ?_ | (refine byV ?_; intro w hw))
            refine ⟨n - (k1 + 1), by omega, ⟨k1 + 1, σ4.p, 0⟩, vs ++ [v], (.slice a64 n64 c64), g, by show n - (k1 + 1) + (k1 + 1) = n; omega, ⟨rfl, rfl, rfl, rfl, trivial⟩, .inl ⟨rfl, by simp; omega, by show n < g + (k1 + 1); omega, hP4⟩, hw⟩
          | false =>
            have hT2 : takeS toks ⟨k1, σ4.p, 0⟩ 4 commaB = ⟨k1, σ4.p, 0⟩ := takeS_f hc
            rw [hT2] at hw
            rw [show (decide ((⟨k1, σ4.p, 0⟩ : RS).er = 0) && false) = false from rfl]
            rw [hc, if_neg (by decide)] at hP4
            repeat (first | refine byW ?_ | (refine byV ?_; intro w hw))
            refine W_cond_true rfl ?_
            repeat (first | refine byW ?_ | (refine byV ?_; intro w hw))
            exact ⟨⟨k1, σ4.p, 0⟩, vs ++ [v], (.slice a64 n64 c64), by show k1 ≤ n; omega, ⟨rfl, rfl, rfl, rfl, trivial⟩, .inl ⟨rfl, hP4⟩, hw⟩
      · have h60 : σ4.er ≠ 0 := of_decide_eq_false h6
        repeat (first | refine byW ?_ | (refine byV ?_; intro w hw))
        exact ⟨σ4, vs, _, by omega, ⟨rfl, rfl, rfl, rfl, trivial⟩, .inr (hin.resolve_left fun q => h60 q.1), hw⟩
    clear hw
    rintro ρ w ⟨σ4, vs, va, hI4, hρ, hG, hw⟩
    rw [hρ.eq]
    repeat (first | refine byW ?_ | (refine byV ?_; intro w hw))
    refine lCall ?_
    refine (Need_any 4 rparB hw).mono ?_
    clear hw
    rintro r w ⟨rfl, hw⟩
    refine ⟨_, rfl, ?_⟩
    repeat (first | refine byW ?_ | (refine byV ?_; intro w hw))
    refine lCall ?_
    refine (Need_any 4 dotB hw).mono ?_
    clear hw
    rintro r w ⟨rfl, hw⟩
    refine ⟨_, rfl, ?_⟩
    have hG6 := tail_st (e := endP s) hG
    have hI6 : (needS toks (endP s) (needS toks (endP s) σ4 4 rparB) 4 dotB).I ≤ toks.length := needS_I (needS_I (by omega))
    generalize needS toks (endP s) (needS toks (endP s) σ4 4 rparB) 4 dotB = σ6 at *
    have hw5 := hw
    clear hw
    obtain ⟨aa, na, ca, rfl, hna, hnac, hca⟩ := hw5.own_shape (i := 2) rfl
    simp only [List.length_map] at hna
    obtain ⟨Γ3, l3, r3, hw⟩ := Wd.freeze (hw5.ps [2])
    clear hw5
    have hw : Wd Γ3 (rpB bp s a n c σ6 :: boxF b7 ⟨nm, aa, na, ca, vs⟩ :: ownF (.slice ao no co) gs :: posB b3 ⟨0, 0⟩ :: S) w := hw
    repeat (first | refine byW ?_ | (refine byV ?_; intro w hw))
    refine lBuildSlice [cF ⟨nm, aa, na, ca, vs⟩] ?_
    intro a75 w hw
    refine lApp (i := 3) (rows2 := [cF ⟨nm, aa, na, ca, vs⟩]) ?_ (Wd.own_rd (i := 0) hw rfl)
    intro v' w hw
    repeat (first | refine byW ?_ | (refine byV ?_; intro w hw))
    have hw : Wd Γ3 (rpB bp s a n c σ6 :: .own v' 24 2 (gs.map cF ++ [cF ⟨nm, aa, na, ca, vs⟩]) :: posB b3 ⟨0, 0⟩ :: S) w := hw.ds [0, 1]
    rw [show gs.map cF ++ [cF ⟨nm, aa, na, ca, vs⟩] = (gs ++ [(⟨nm, aa, na, ca, vs⟩ : FactH)]).map cF from by simp] at hw
    refine ⟨if σ6.er = 0 then n - σ6.I + 1 else 0, ?_, Γ3, σ6, gs ++ [⟨nm, aa, na, ca, vs⟩], v', f, rfl, by omega, hle2.trans l3, by simp; omega, ⟨rfl, rfl, rfl, trivial⟩, ?_, hw⟩
    · rw [hμ, if_pos h0]
      rcases hG6 with ⟨q1, q2⟩ | ⟨q1, q2⟩
      · have := factP_ok q2
        rw [if_pos q1]; omega
      · rw [if_neg q1]; omega
    · rcases hG6 with ⟨q1, q2⟩ | ⟨q1, q2⟩
      · obtain ⟨t1, t2, t3, t4, t5⟩ := factP_ok q2
        have t3 : ¬ (facts gs).length = 8192 := of_decide_eq_false t3
        have hfl : (facts gs).length = gs.length := List.length_map ..
        refine .inl ⟨q1, fun x hx => ?_, by simp; omega, by omega, ?_⟩
        · rcases List.mem_append.1 hx with q | q
          · exact (hok.mono l3) x q
          · rw [List.mem_singleton.1 q]; exact ⟨r3, t5⟩
        · rw [hP, factsN_go (by omega) q2]
          unfold facts
          rw [List.map_append]; rfl
      · refine .inr ⟨q1, ?_⟩
        rw [hP, factsN_err (by omega) q2]; rfl
  · have hM : (σ.er = 0 ∧ FsOk Γ2 gs ∧ gs.length ≤ 8192 ∧ parseG (toks, p1, e1) (endP s) = (setS (facts gs), ⟨0, 0⟩, 0)) ∨ (σ.er ≠ 0 ∧ parseG (toks, p1, e1) (endP s) = ([], σ.p, σ.er)) := by
      rcases hst with ⟨q1, q2, q3, q4, q5⟩ | q
      · refine .inl ⟨q1, q2, q3, ?_⟩
        have h1 : (decide (σ.er = 0) && !decide ((n : Int) ≤ σ.I)) = false := h1
        rw [decide_eq_true q1, Bool.true_and, Bool.not_eq_false', decide_eq_true_eq] at h1
        obtain ⟨f, rfl⟩ : ∃ f', f = f' + 1 := ⟨f - 1, by omega⟩
        rw [q5, factsN_stop (by omega)]; rfl
      · exact .inr q
    clear hst h1 hμ
    obtain ⟨ao, no, co, rfl, hno, hnoc, hco⟩ := hw.own_shape (i := 1) rfl
    repeat (first | refine byW ?_ | (refine byV ?_; intro w hw) | (apply L_plain; apply L_go; refine lPs ?_; intro w hw) | (apply L_guarded; apply L_go; refine lPsG ?_; intro w hw))
    refine W_cond rfl (fun h5 => ?_) (fun h5 => ?_)
    · have h5 : σ.er ≠ 0 := by
        have h5 : (!decide (σ.er = 0)) = true := h5
        simpa using h5
      obtain ⟨-, hR⟩ := hM.resolve_left fun q => h5 q.1
      rw [hR]
      repeat (first | refine byW ?_ | (refine byV ?_; intro w hw))
      refine W_mix1 [rpB bp s a n c σ] (posB b3 ⟨0, 0⟩ :: S) [[],[],[],[],[],[],[],[],[],[0],[]] [[],[],[],[],[],[],[],[],[],[0],[]] (hw.dropAt 1) ?_
      repeat (first | refine mY ?_ | refine mP ?_ | refine mPg ?_)
      refine mStoreC ?_
      repeat (first | refine mY ?_ | refine mP ?_ | refine mPg ?_)
      refine mEnd fun w g hw => ?_
      have hw : Wd Γ2 ([rpB bp s a n c σ] ++ ((posB b3 σ.p :: S) ++ [])) w := hw
      rw [List.append_nil] at hw
      repeat (first | refine byW ?_ | (refine byV ?_; intro w hw))
      exact ⟨[.slice none 0 0, .agg (enc σ.p).toArray, .int .i64 σ.er], ⟨rfl, resC (i := 1) hw rfl rfl rfl, rfl, trivial⟩, Γ2, _, [], hle.trans hle2, rfl, rfl, (fun f hf => by cases hf), Wd.addNil (hw.ds [0, 0])⟩
    · have h5 : σ.er = 0 := by
        have h5 : (!decide (σ.er = 0)) = false := h5
        simpa using h5
      obtain ⟨-, hok, hgl2, hR⟩ := hM.resolve_right fun q => q.1 h5
      rw [hR]
      repeat (first | refine byW ?_ | (refine byV ?_; intro w hw))
      refine lCall (vs := [.slice ao no co]) ?_
      refine (SetR_any (S := rpB bp s a n c σ :: ownF (.slice ao no co) gs :: posB b3 ⟨0, 0⟩ :: S) gs (fun x hx => (hok x hx).1) (by omega) (RdS.own (i := 1) hw rfl) hw).mono ?_
      clear hw
      rintro r w ⟨v3, rfl, hw⟩
      refine ⟨_, rfl, ?_⟩
      repeat (first | refine byW ?_ | (refine byV ?_; intro w hw))
      refine lStore (i := 3) ?_
      intro w hw
      have hw : Wd Γ2 (ownF v3 (setF gs) :: rpB bp s a n c σ :: ownF (.slice ao no co) gs :: posB b3 ⟨0, 0⟩ :: S) w := hw
      repeat (first | refine byW ?_ | (refine byV ?_; intro w hw))
      exact ⟨[v3, .agg (enc (⟨0, 0⟩ : PosT)).toArray, .int .i64 0], ⟨rfl, resC (i := 3) hw rfl rfl rfl, rfl, trivial⟩, Γ2, v3, setF gs, hle.trans hle2, rfl, setF_set gs, hok.setF, hw.ds [1, 1, 1]⟩
end
end Go.Proofs.YtmjkacgmepbljaaGreatDoor
end
/- FactRoundTrip: facts are written and read back, walked. -/
section
open Go Mk
namespace Go.Proofs.YtmjkacgmepbljaaGreatDoor
set_option maxHeartbeats 16000000
attribute [local irreducible] Calls cFact parseF formatF

theorem format_size {D : List Fact} (hD : ∀ x ∈ D, FactOk x) (hn : D.length ≤ 10000) : (formatF D).size ≤ 90000000 := by
  unfold formatF formatL
  split
  · rename_i h
    have h1 := lines_len (l := setS D) (fun x hx => hD x (setS_mem.1 hx)) h
    have h2 := setS_len (l := D)
    have h3 : (setS D).length * 9000 ≤ 10000 * 9000 := Nat.mul_le_mul_right _ (by omega)
    show (mkB _).size ≤ _
    rw [mkB_size]; omega
  · exact Nat.zero_le _
theorem wgts_right : ∀ {l : List Fact}, (∀ x ∈ l, rightS x = true) → wgts l ≤ 19 * l.length
  | [], _ => Nat.le_refl _
  | x :: l, h => by
    have ih := wgts_right (l := l) fun y hy => h y (List.mem_cons_of_mem _ hy)
    have h1 := h x (by simp)
    unfold rightS at h1
    simp only [Bool.and_eq_true, decide_eq_true_eq] at h1
    rw [wgts_cons, List.length_cons]
    unfold wgt
    omega
set_option maxRecDepth 8000 in
theorem FactRoundTrip_any {Γ : Gho} {S : List Res} {w : World} [hT : TabG Γ] {v : Value} (db : List FactH) (s : ByteArray) (hr : RepS Γ v 2 (db.map cF)) (hi : FsIn Γ db) (hw : Wd Γ S w) :
    Calls Tryz.prog 5 #[v, .string s] w fun e w' => ∃ Γ', Γ.le Γ' ∧ e = .returned (.bool true) ∧ Wd Γ' S w' := by
  have hFew := pg_few db (fun x hx => (hi x hx).1) hr
  obtain ⟨a, n, c, rfl, hn, hnc, hc⟩ := hr.shape
  simp only [List.length_map] at hn
  have hfl : (facts db).length = db.length := List.length_map ..
  refine calls_of_W Tryz.func5 rfl rfl ?_
  repeat (first | refine byW ?_ | (refine byV ?_; intro w hw))
  refine W_cond rfl (fun h => ?_) (fun h => ?_)
  · repeat (first | refine byW ?_ | (refine byV ?_; intro w hw))
    exact ⟨_, rfl, Γ, Gho.le.refl _, rfl, hw⟩
  have h : (!fewB (facts db) || decide ((2000 : Int) < s.size)) = false := h
  rw [Bool.or_eq_false_iff, decide_eq_false_iff_not, Bool.not_eq_false'] at h
  obtain ⟨hD, hs0⟩ := h
  obtain ⟨hdl, hdb⟩ := hi.ok hD
  clear hFew hi
  repeat (first | refine byW ?_ | (refine byV ?_; intro w hw))
  refine W_loop (fun μ ρ w => ∃ (k : Nat), μ + k = n ∧ Has ρ [(0, .slice a n c), (1, .string s), (5, .bool (((facts db).take k).all rightS)), (6, .int .i64 k)] ∧ Wd Γ S w) n ⟨0, by omega, ⟨rfl, rfl, rfl, rfl, trivial⟩, hw⟩ ?_
  clear hw
  rintro μ ρ w ⟨k, hk, hρ, hw⟩
  rw [hρ.eq]
  repeat (first | refine byW ?_ | (refine byV ?_; intro w hw))
  refine W_cond rfl (fun h2 => ?_) (fun h2 => ?_)
  · have hkn : k < n := by have := of_decide_eq_true h2; omega
    obtain ⟨x, hx⟩ := get_lt (l := db) (k := k) (by omega)
    have hfx : (facts db)[k]? = some x.fact := by unfold facts; rw [List.getElem?_map, hx]; rfl
    obtain ⟨hxf, hxo⟩ := hdb x (List.mem_of_getElem? hx)
    have hR := pg_Right hxf hxo
    repeat (first | refine byW ?_ | (refine byV ?_; intro w hw))
    refine ⟨μ - 1, by omega, k + 1, by omega, ⟨rfl, rfl, ?_, rfl, trivial⟩, hw⟩
    show Value.bool _ = Value.bool _
    congr 1
    rw [List.take_add_one, hfx, List.all_append]
    show _ = (_ && (rightS x.fact && true))
    rw [Bool.and_true]
  have hkn : ¬ k < n := by have := of_decide_eq_false h2; omega
  rw [List.take_of_length_le (show (facts db).length ≤ k by omega)]
  clear hk h2 hρ
  have hDo : ∀ x ∈ facts db, FactOk x := fun x hx => by
    obtain ⟨f, hf, rfl⟩ := facts_mem.1 hx
    exact (hdb f hf).2
  have hsz := format_size hDo (by omega)
  repeat (first | refine byW ?_ | (refine byV ?_; intro w hw))
  refine lCall (vs := [.slice a n c]) ?_
  refine (Format_any db hdb (by omega) hr.rdS hw).mono ?_
  clear hw
  rintro e w ⟨Γ1, le1, rfl, hw⟩
  refine ⟨_, rfl, ?_⟩
  haveI hT1 : TabG Γ1 := hT.mono le1
  have hr1 := hr.mono le1
  have hdb1 := hdb.mono le1
  have hwr := format_wrong (D := facts db)
  have hbk := fun h => back_right (D := facts db) h
  generalize hrt : (facts db).all rightS = rt at *
  repeat (first | refine byW ?_ | (refine byV ?_; intro w hw))
  refine W_cond rfl (fun h3 => ?_) (fun h3 => ?_)
  · exfalso
    have h3 : (!rt && decide (formatF (facts db) ≠ ⟨#[]⟩)) = true := h3
    rw [Bool.and_eq_true, Bool.not_eq_true', decide_eq_true_eq] at h3
    exact h3.2 (hwr h3.1)
  clear h3
  repeat (first | refine byW ?_ | (refine byV ?_; intro w hw))
  refine W_cutT (fun ρ w => ∃ Γ2, Γ1.le Γ2 ∧ Has ρ [(1, .string s)] ∧ Wd Γ2 S w) ?_ ?_
  · refine W_cond rfl (fun h4 => ?_) (fun h4 => ?_)
    · have h4 : rt = true := h4
      have hall : ∀ x ∈ facts db, FactOk x ∧ rightS x = true := fun x hx => ⟨hDo x hx, List.all_eq_true.1 (hrt.trans h4) x hx⟩
      have hwg := wgts_right fun x hx => (hall x hx).2
      obtain ⟨-, hpf⟩ := hbk hall (by omega) (by omega)
      have hPO := fun (w : World) (hw : Wd Γ1 S w) => FParse_any (formatF (facts db)) (by unfold maxS0; omega) hw
      rw [hpf] at hPO
      repeat (first | refine byW ?_ | (refine byV ?_; intro w hw))
      refine lCall ?_
      refine (hPO _ hw).mono ?_
      clear hw hPO
      rintro e w ⟨Γ2, va, la, l2, rfl, hA, hoA, hw⟩
      refine ⟨_, rfl, ?_⟩
      obtain ⟨Γ3, l3, rA, hw⟩ := hw.freeze
      have hLA : RL Γ3 va la := ⟨rA, hoA.mono l3⟩
      replace l2 := l2.trans l3
      clear l3 rA hoA
      obtain ⟨aa, ca, hva, ka1, ka2⟩ := hLA.len
      rw [hva]
      rw [hva] at hLA
      clear hva
      repeat (first | refine byW ?_ | (refine byV ?_; intro w hw))
      refine lAlloc ?_
      intro b9 w hw
      repeat (first | refine byW ?_ | (refine byV ?_; intro w hw))
      refine lStore ?_
      intro w hw
      have hw : Wd Γ3 (posB b9 ⟨0, 0⟩ :: S) w := hw
      repeat (first | (first | refine W_seq ?_ | refine W_block ?_ | refine W_region ?_ | refine W_skip ?_ | refine W_ret ?_ | refine W_exit ?_) | ((first | apply L_bin | apply L_notop); first | (refine lT ?_ ?_; (first | exact rfl | exact decide_eq_true rfl | (simp; done))) | (refine lF ?_ ?_; (first | exact rfl | exact decide_eq_true rfl | (simp; done)))) | (first | refine L_nil ?_ | (apply L_plain; first | (apply L_go; first | refine lP ?_ | (refine lPg ?_; intro w hw)) | (apply L_mf; refine lMakeFunc ?_) | refine lY ?_) | (apply L_guarded; first | refine lGT ?_ (hct := rfl) | refine lGF ?_ (hct := rfl) | (apply L_go; first | refine lPG ?_ | (refine lPgG ?_; intro w hw)) | refine lG ?_)) | (refine lAlloc ?_; intro _ w hw) | (refine lBox ?_; intro _ w hw) | (refine lStore ?_; intro w hw))
      refine lCall (vs := [.slice a n c]) ?_
      refine (SetR_any db (fun x hx => ((hdb1.mono l2) x hx).1) (by omega) (hr1.mono l2).rdS hw).mono ?_
      clear hw
      rintro e w ⟨vs, rfl, hw⟩
      refine ⟨_, rfl, ?_⟩
      obtain ⟨Γ4, l4, rS, hw⟩ := hw.freeze
      have hLS : RL Γ4 vs (setF db) := ⟨rS, (hdb1.mono l2).setF.mono l4⟩
      replace hLA := hLA.mono l4
      replace l2 := l2.trans l4
      clear l4 rS
      obtain ⟨a60, c60, hvs, -, -⟩ := hLS.len
      rw [hvs]
      rw [hvs] at hLS
      clear hvs
      have hSa := pg_same hLA hLS
      rw [hA, setF_set, decide_eq_true rfl] at hSa
      repeat (first | (first | refine W_seq ?_ | refine W_block ?_ | refine W_region ?_ | refine W_skip ?_ | refine W_ret ?_ | refine W_exit ?_) | ((first | apply L_bin | apply L_notop); first | (refine lT ?_ ?_; (first | exact rfl | exact decide_eq_true rfl | (simp; done))) | (refine lF ?_ ?_; (first | exact rfl | exact decide_eq_true rfl | (simp; done)))) | (first | refine L_nil ?_ | (apply L_plain; first | (apply L_go; first | refine lP ?_ | (refine lPg ?_; intro w hw)) | (apply L_mf; refine lMakeFunc ?_) | refine lY ?_) | (apply L_guarded; first | refine lGT ?_ (hct := rfl) | refine lGF ?_ (hct := rfl) | (apply L_go; first | refine lPG ?_ | (refine lPgG ?_; intro w hw)) | refine lG ?_)) | (refine lAlloc ?_; intro _ w hw) | (refine lBox ?_; intro _ w hw) | (refine lStore ?_; intro w hw))
      refine W_cond_false rfl ?_
      repeat (first | refine byW ?_ | (refine byV ?_; intro w hw))
      exact ⟨Γ4, l2, ⟨rfl, trivial⟩, hw.drop⟩
    · repeat (first | refine byW ?_ | (refine byV ?_; intro w hw))
      exact ⟨Γ1, Gho.le.refl _, ⟨rfl, trivial⟩, hw⟩
  clear hw
  rintro ρ w ⟨Γ2, le2, hρ, hw⟩
  rw [hρ.eq]
  replace le1 := le1.trans le2
  clear le2
  haveI hT2 : TabG Γ2 := hT.mono le1
  have hsrc : s.size ≤ 2000 := by omega
  have hpe := parse_err (s := s)
  have hpa := parse_again hsrc
  repeat (first | refine byW ?_ | (refine byV ?_; intro w hw))
  refine lCall ?_
  refine (FParse_any s (by unfold maxS0; omega) hw).mono ?_
  clear hw
  rintro e w ⟨Γ3, va, la, l2, rfl, hA, hoA, hw⟩
  refine ⟨_, rfl, ?_⟩
  obtain ⟨Γ4, l3, rA, hw⟩ := hw.freeze
  have hLA : RL Γ4 va la := ⟨rA, hoA.mono l3⟩
  replace le1 := le1.trans (l2.trans l3)
  clear l3 rA hoA l2
  obtain ⟨aa, ca, hva, ka1, ka2⟩ := hLA.len
  rw [hva]
  rw [hva] at hLA
  clear hva
  haveI hT4 : TabG Γ4 := hT.mono le1
  generalize parseF s = pr at *
  obtain ⟨A, pp, er⟩ := pr
  dsimp only at hA hpe hpa ⊢
  repeat (first | refine byW ?_ | (refine byV ?_; intro w hw))
  refine lAlloc ?_
  intro b12 w hw
  repeat (first | refine byW ?_ | (refine byV ?_; intro w hw))
  refine lStore ?_
  intro w hw
  have hw : Wd Γ4 (posB b12 pp :: S) w := hw
  repeat (first | refine byW ?_ | (refine byV ?_; intro w hw))
  refine W_cond rfl (fun h5 => ?_) (fun h5 => ?_)
  · have h5 : er ≠ 0 := of_decide_eq_true h5
    have hA0 := hpe h5
    rw [hA0] at hA
    have hla : la = [] := List.eq_nil_of_length_eq_zero (by have := congrArg List.length hA; unfold facts at this; simpa using this)
    rw [hla]
    repeat (first | (first | refine W_seq ?_ | refine W_block ?_ | refine W_region ?_ | refine W_skip ?_ | refine W_ret ?_ | refine W_exit ?_) | ((first | apply L_bin | apply L_notop); first | (refine lT ?_ ?_; (first | exact rfl | exact decide_eq_true rfl | (simp; done))) | (refine lF ?_ ?_; (first | exact rfl | exact decide_eq_true rfl | (simp; done)))) | (first | refine L_nil ?_ | (apply L_plain; first | (apply L_go; first | refine lP ?_ | (refine lPg ?_; intro w hw)) | (apply L_mf; refine lMakeFunc ?_) | refine lY ?_) | (apply L_guarded; first | refine lGT ?_ (hct := rfl) | refine lGF ?_ (hct := rfl) | (apply L_go; first | refine lPG ?_ | (refine lPgG ?_; intro w hw)) | refine lG ?_)) | (refine lAlloc ?_; intro _ w hw) | (refine lBox ?_; intro _ w hw) | (refine lStore ?_; intro w hw))
    exact ⟨_, rfl, Γ4, le1, rfl, hw.drop⟩
  have h5 : er = 0 := Classical.not_not.1 (of_decide_eq_false h5)
  obtain ⟨g1, g2, g3⟩ := hpa h5
  have hlal : la.length = A.length := by rw [← hA]; unfold facts; rw [List.length_map]
  have hsz2 := format_size g3 (by omega)
  repeat (first | refine byW ?_ | (refine byV ?_; intro w hw))
  refine lCall (vs := [.slice aa la.length ca]) ?_
  refine (Format_any la hLA.ok (by omega) hLA.rep.rdS hw).mono ?_
  clear hw
  rintro e w ⟨Γ5, l5, rfl, hw⟩
  refine ⟨_, rfl, ?_⟩
  rw [hA]
  replace hLA := hLA.mono l5
  replace le1 := le1.trans l5
  clear l5
  have hPO := fun (w : World) (hw : Wd Γ5 (posB b12 pp :: S) w) => FParse_any (formatF A) (by unfold maxS0; omega) hw
  rw [g1] at hPO
  repeat (first | refine byW ?_ | (refine byV ?_; intro w hw))
  refine lCall ?_
  refine (hPO _ hw).mono ?_
  clear hw hPO
  rintro e w ⟨Γ6, vb, lb, l2, rfl, hB, hoB, hw⟩
  refine ⟨_, rfl, ?_⟩
  obtain ⟨Γ7, l3, rB, hw⟩ := hw.freeze
  have hLB : RL Γ7 vb lb := ⟨rB, hoB.mono l3⟩
  replace le1 := le1.trans (l2.trans l3)
  replace hLA := hLA.mono (l2.trans l3)
  clear l3 rB hoB l2
  obtain ⟨ab, cb, hvb, kb1, kb2⟩ := hLB.len
  rw [hvb]
  rw [hvb] at hLB
  clear hvb
  haveI hT7 : TabG Γ7 := hT.mono le1
  have hSa := pg_same hLA hLB
  rw [hA, hB, decide_eq_true rfl] at hSa
  repeat (first | refine byW ?_ | (refine byV ?_; intro w hw))
  refine lAlloc ?_
  intro b15 w hw
  repeat (first | refine byW ?_ | (refine byV ?_; intro w hw))
  refine lStore ?_
  intro w hw
  have hw : Wd Γ7 (posB b15 ⟨0, 0⟩ :: posB b12 pp :: S) w := hw
  repeat (first | (first | refine W_seq ?_ | refine W_block ?_ | refine W_region ?_ | refine W_skip ?_ | refine W_ret ?_ | refine W_exit ?_) | ((first | apply L_bin | apply L_notop); first | (refine lT ?_ ?_; (first | exact rfl | exact decide_eq_true rfl | (simp; done))) | (refine lF ?_ ?_; (first | exact rfl | exact decide_eq_true rfl | (simp; done)))) | (first | refine L_nil ?_ | (apply L_plain; first | (apply L_go; first | refine lP ?_ | (refine lPg ?_; intro w hw)) | (apply L_mf; refine lMakeFunc ?_) | refine lY ?_) | (apply L_guarded; first | refine lGT ?_ (hct := rfl) | refine lGF ?_ (hct := rfl) | (apply L_go; first | refine lPG ?_ | (refine lPgG ?_; intro w hw)) | refine lG ?_)) | (refine lAlloc ?_; intro _ w hw) | (refine lBox ?_; intro _ w hw) | (refine lStore ?_; intro w hw))
  exact ⟨_, rfl, Γ7, le1, rfl, hw.drop.drop⟩
theorem FactRoundTrip_all {W : World} (hT : TabG (allG0 W)) {v : Value} (db : List FactH) (s : ByteArray) (h0 : RepS (allG0 W) v 2 (db.map cF) ∧ FsIn (allG0 W) db) :
    Calls Tryz.prog 5 #[v, .string s] W fun e w' => ∃ Γ', (allG0 W).le Γ' ∧ e = .returned (.bool true) ∧ Wd Γ' [] w' :=
  FactRoundTrip_any db s h0.1 h0.2 (allG0_wd W)
end Go.Proofs.YtmjkacgmepbljaaGreatDoor
end
