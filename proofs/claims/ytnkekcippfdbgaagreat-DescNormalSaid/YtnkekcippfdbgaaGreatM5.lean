/- Texts of this proof, one behind another. -/
import Derived.Test.YtnkekcippfdbgaaGreatM4
import Derived.Test.YtnkekcippfdbgaaGreatRows
import Derived.ProofKit
import Derived.OpenShut
import Derived.Deep.Slices
import Derived.ReadAgain
import Derived.Test.YtnkekcippfdbgaaGreatM2
import Derived.Laws.MakeOwn
/- The program's parser: Parse, which recovers what the parser throws. -/
section
open Go Mk
namespace Go.Proofs.YtnkekcippfdbgaaGreat
set_option maxHeartbeats 4000000
attribute [local irreducible] Calls scanS hardwareP endP

def maxS0 : Nat := 4611686018427387904
/-- What Parse answers. -/
def parseS (s : ByteArray) : HwT × PosT × Int := if (scanS s).2.2 = 0 then (match hardwareP (scanS s).1 (endP s) with | .ok (H, _) => (H, ⟨0, 0⟩, 0) | .error (p, er) => (default, p, er)) else (default, (scanS s).2.1, (scanS s).2.2)
/-- A description in a variable that a function answers. -/
abbrev hwZ : List Value := [.string ⟨#[]⟩, .slice none 0 0, .slice none 0 0, .slice none 0 0, .slice none 0 0, .slice none 0 0]
section
variable {Γ : Gho} {S : List Res} {w : World} {b2 b3 b4 : Nat} {h0 : Array Value} {p0 : PosT} {e0 : Int}
def outB (b2 b3 b4 : Nat) (h0 : Array Value) (p0 : PosT) (e0 : Int) (S : List Res) : List Res := .blk b2 (.cells h0 29) :: .blk b3 (.cells (enc p0).toArray 31) :: .blk b4 (.cells #[.int .i64 e0] 32) :: S
theorem rec_ret (hw : Wd Γ S w) (args : Array Value) (hn : Nat.ble args.size 22 = true) :
    CallsD Tryz.prog 15 args .returning w fun e u' w' => e = .returned (.tuple #[]) ∧ u' = .returning ∧ Wd Γ S w' := by
  refine callsD_rec Tryz.func15 rfl hn rfl rfl ?_
  refine W_seq ?_
  refine W_region ?_
  refine lY (v := .nilIface) ?_ (hy := y_move rfl)
  refine lY (v := .bool false) ?_ (hy := y_neqNN Tryz.underlying20 rfl)
  refine L_nil ?_
  refine W_cond rfl (fun h => by cases h) (fun _ => ?_)
  refine W_skip ?_
  exact ⟨_, rfl, rfl, rfl, hw⟩
theorem rec_pan {p : PosT} {er : Int} (hz : h0.size = 6) (hw : Wd Γ (outB b2 b3 b4 h0 p0 e0 S) w) :
    CallsD Tryz.prog 15 #[.pointer (some ⟨b2, 0, none⟩), .pointer (some ⟨b3, 0, none⟩), .pointer (some ⟨b4, 0, none⟩)] (.panicking [failE p er]) w fun e u' w' =>
      e = .returned (.tuple #[]) ∧ settle u' = .returning ∧ Wd Γ (outB b2 b3 b4 hwZ.toArray p er S) w' := by
  refine callsD_rec Tryz.func15 rfl rfl rfl rfl ?_
  obtain ⟨c1, c2, c3, c4, c5, c6, rfl⟩ : ∃ c1 c2 c3 c4 c5 c6, h0 = #[c1, c2, c3, c4, c5, c6] := by
    obtain ⟨l⟩ := h0
    match l, hz with
    | [c1, c2, c3, c4, c5, c6], _ => exact ⟨c1, c2, c3, c4, c5, c6, rfl⟩
  unfold outB at hw
  have hv : (recM (.panicking [failE p er])).1 = .iface 47 (.agg #[.int .i64 p.Line, .int .i64 p.Col, .int .i64 er]) := rfl
  rw [hv]
  refine W_seq ?_
  refine W_region ?_
  refine lY (v := .iface 47 (.agg #[.int .i64 p.Line, .int .i64 p.Col, .int .i64 er])) ?_ (hy := y_move rfl)
  refine lY (v := .bool true) ?_ (hy := y_neqIN Tryz.underlying20 rfl)
  refine L_nil ?_
  refine W_cond rfl (fun _ => ?_) (fun h => by cases h)
  refine W_seq ?_
  refine W_region ?_
  refine lY (v := .iface 47 (.agg #[.int .i64 p.Line, .int .i64 p.Col, .int .i64 er])) ?_ (hy := y_move rfl)
  refine lY (v := .tuple #[.agg #[.int .i64 p.Line, .int .i64 p.Col, .int .i64 er], .bool true]) ?_ (hy := y_assertOk Tryz.underlying47 rfl)
  repeat (first | refine byW ?_ | (refine byV ?_; intro w hw))
  refine lAlloc ?_
  intro b5 w hw
  repeat (first | refine byW ?_ | (refine byV ?_; intro w hw))
  refine lStore ?_
  intro w hw
  have hw : Wd Γ (.blk b5 (.cells #[.int .i64 p.Line, .int .i64 p.Col, .int .i64 er] 47) :: .blk b2 (.cells #[c1, c2, c3, c4, c5, c6] 29) :: .blk b3 (.cells (enc p0).toArray 31) :: .blk b4 (.cells #[.int .i64 e0] 32) :: S) w := hw
  repeat (first | refine byW ?_ | (refine byV ?_; intro w hw))
  refine W_cond rfl (fun h => by cases h) (fun _ => ?_)
  repeat (first | refine byW ?_ | (refine byV ?_; intro w hw))
  refine W_mixed [] [fun _ => [.blk b5 _], fun _ => [.blk b2 _], fun _ => [.blk b3 _], fun _ => .blk b4 _ :: S] [[],[],[],[],[],[1],[2],[3]] [[],[],[0],[],[0],[1],[2],[3]] [[],[],[],[]] (by simpa [List.range, List.range.loop, ML] using hw) ?_
  repeat (first | refine mY ?_ | refine mP ?_ | refine mPg ?_)
  refine mStoreC (c := 1) ?_
  refine mStoreC (c := 2) ?_
  refine mStoreC (c := 3) ?_
  refine mEnd0 ?_
  intro w hw
  have hw : Wd Γ ((.blk b5 (.cells #[.int .i64 p.Line, .int .i64 p.Col, .int .i64 er] 47) :: outB b2 b3 b4 hwZ.toArray p er S) ++ []) w := hw
  rw [List.append_nil] at hw
  exact ⟨_, rfl, rfl, rfl, hw.drop⟩

end
theorem resS {P : Program} {Γ : Gho} {S : List Res} {ρ : Fr} {w : World} {t T i b k : Nat} {cs : Array Value} {E : TypeId} {fr : Nat × Nat} {v : Value} [ha : TS P T] (hw : Wd Γ S w) (hi : S[i]? = some (.blk b (.cells cs E fr))) (hx : ρ t = .pointer (some ⟨b, k, none⟩)) (hv : cs[k]? = some v) : ResV P ρ w (.cell t T) v := by
  refine ⟨_, hx, ?_⟩
  have hc := cell_of (hw.at_blk hi) hv
  simp [loadVar, scal_isAgg ha.h, hc, go_sem]
theorem scanN_len {s : ByteArray} : ∀ {f off : Nat} {acc : List Tok}, off ≤ s.size → (scanN s f off acc).1.length ≤ acc.length + (s.size - off)
  | 0, off, acc, h => by simp [scanN]
  | f + 1, off, acc, h => by
    unfold scanN
    split
    · simp
    · rename_i h1
      split
      · have := scanN_len (s := s) (f := f) (off := off + 1) (acc := acc) (by omega)
        omega
      · split
        · have h2 : off ≤ skipN s off ∧ skipN s off ≤ s.size := by
            unfold skipN
            have : (((bts s).drop off).takeWhile fun b => decide ((b.toNat : Int) ≠ 10)).length ≤ ((bts s).drop off).length := (List.takeWhile_sublist _).length_le
            rw [List.length_drop, bts_len] at this
            omega
          have := scanN_len (s := s) (f := f) (off := skipN s off) (acc := acc) h2.2
          omega
        · split
          · rename_i h4
            have hsz : (bSub s off s.size).size = s.size - off := sub_size (Nat.le_refl _)
            obtain ⟨a1, a2, -⟩ := tok_ok (s := bSub s off s.size) (by omega) h4
            have := scanN_len (s := s) (f := f) (off := off + (tokS (bSub s off s.size)).n) (acc := acc ++ [⟨(tokS (bSub s off s.size)).kind, (tokS (bSub s off s.size)).text, (tokS (bSub s off s.size)).value, (posAt s off).Line, (posAt s off).Col⟩]) (by omega)
            simp at this; omega
          · simp
theorem scanS_len {s : ByteArray} : (scanS s).1.length ≤ 65536 := by
  unfold scanS
  split
  · simp
  · have := scanN_len (s := s) (f := s.size + 1) (off := 0) (acc := []) (by omega)
    simp at this; omega
section
variable {Γ : Gho} {S : List Res} {w : World}
set_option maxRecDepth 8000 in
theorem Parse_any (s : ByteArray) (hs : s.size ≤ maxS0) (hw : Wd Γ S w) :
    Calls Tryz.prog 6 #[.string s] w fun r w' => ∃ Γ' u, Γ.le Γ' ∧ r = .returned (.tuple #[u, .agg (enc (parseS s).2.1).toArray, .int .i64 (parseS s).2.2]) ∧ HwOut Γ' (parseS s).1 S u w' := by
  refine calls_of_WX Tryz.func6 rfl rfl ?_
  refine WX_seq (WX_of_W ?_)
  repeat (first | refine byW ?_ | (refine byV ?_; intro w hw))
  refine lAlloc ?_
  intro b2 w hw
  refine lAlloc ?_
  intro b3 w hw
  refine lAlloc ?_
  intro b4 w hw
  refine L_nil ?_
  have hw : Wd Γ (.blk b4 (.cells #[.int .i64 0] 32) :: .blk b3 (.cells (enc (default : PosT)).toArray 31) :: .blk b2 (.cells hwZ.toArray 29) :: S) w := hw
  have hw : Wd Γ (outB b2 b3 b4 hwZ.toArray default 0 S) w := hw.ps [1, 2]
  refine WX_seq (WX_of_W ?_)
  repeat (first | refine byW ?_ | (refine byV ?_; intro w hw))
  refine lCall ?_
  refine (Scan_any Γ _ w s hs hw).mono ?_
  rintro r w ⟨v, rfl, hw⟩
  refine ⟨_, rfl, ?_⟩
  repeat (first | refine byW ?_ | (refine byV ?_; intro w hw))
  unfold outB at hw
  refine lStore (i := 2) ?_
  intro w hw
  refine lStore (i := 3) ?_
  intro w hw
  refine L_nil ?_
  have hw : Wd Γ (.own v 63 5 ((scanS s).1.map enc) :: outB b2 b3 b4 hwZ.toArray (scanS s).2.1 (scanS s).2.2 S) w := hw
  unfold outB at hw
  refine WX_seq (WX_seq (WX_of_W ?_))
  repeat (first | refine byW ?_ | (refine byV ?_; intro w hw))
  refine WX_cond rfl (fun h => ?_) (fun h => ?_)
  · have h : ¬ (scanS s).2.2 = 0 := by simpa using h
    have hP : parseS s = (default, (scanS s).2.1, (scanS s).2.2) := by unfold parseS; rw [if_neg h]
    rw [hP]
    refine WX_of_W ?_
    repeat (first | refine byW ?_ | (refine byV ?_; intro w hw))
    refine W_mixed [] [fun _ => [.own v _ _ _], fun _ => [.blk b2 _], fun _ => [.blk b3 _], fun _ => .blk b4 _ :: S] [[],[],[],[1],[2],[3]] [[],[2],[3],[1],[2],[3]] [[],[],[],[]] (by simpa [List.range, List.range.loop, ML] using hw) ?_
    repeat (first | refine mY ?_ | refine mP ?_ | refine mPg ?_)
    refine mStoreC (c := 1) ?_
    refine mStoreC (c := 2) ?_
    refine mStoreC (c := 3) ?_
    refine mEnd0 ?_
    intro w hw
    have hw : Wd Γ ((.own v 63 5 ((scanS s).1.map enc) :: outB b2 b3 b4 hwZ.toArray (scanS s).2.1 (scanS s).2.2 S) ++ []) w := hw
    rw [List.append_nil] at hw
    repeat (first | refine byW ?_ | (refine byV ?_; intro w hw))
    have hw := hw.drop
    unfold outB at hw
    intro a ha hsz
    exact ⟨_, results_resL (vs := [.agg hwZ.toArray, .agg (enc (scanS s).2.1).toArray, .int .i64 (scanS s).2.2]) (by decide) (by rw [ha]; exact ⟨resC (i := 0) hw rfl rfl rfl, resC (i := 1) hw rfl rfl rfl, resS (i := 2) hw rfl rfl rfl, trivial⟩), Γ, _, Gho.le.refl _, rfl, _, _, _, _, _, [], rfl, by simp, rfl, Wd.addNil (Wd.addNil (Wd.addNil (Wd.addNil (Wd.addNil (hw.ds [0, 0, 0])))))⟩
  have h : (scanS s).2.2 = 0 := by simpa using h
  have hP : parseS s = (match hardwareP (scanS s).1 (endP s) with | .ok (H, _) => (H, ⟨0, 0⟩, 0) | .error (p, er) => (default, p, er)) := by unfold parseS; rw [if_pos h]
  rw [hP]
  clear hP
  generalize (scanS s).2.1 = p1 at *
  generalize (scanS s).2.2 = e1 at *
  have hlen := scanS_len (s := s)
  generalize (scanS s).1 = toks at *
  obtain ⟨at', n, c, rfl, hn, -, -⟩ := hw.own_shape (i := 0) rfl
  simp only [List.length_map] at hn
  obtain ⟨Γ1, hle, ht, hw⟩ := hw.freeze
  refine WX_of_W (W_skip ?_)
  refine WX_seq (WX_regionX ?_)
  refine LD_step ((y_makeFuncL (first := []) (cap := [.tmp 2, .tmp 3, .tmp 4]) (f1 := []) (c1 := [.pointer (some ⟨b2, 0, none⟩), .pointer (some ⟨b3, 0, none⟩), .pointer (some ⟨b4, 0, none⟩)]) EvL.nil (EvL.cons rfl (EvL.cons rfl (EvL.cons rfl EvL.nil)))).step ?_)
  refine LD_deferF ?_
  refine LD_nil ?_
  refine WX_seq (WX_region ?_)
  repeat (first | refine byW ?_ | (refine byV ?_; intro w hw))
  refine lCall ?_
  refine (endOf_any s hs w hw).mono ?_
  rintro r w ⟨rfl, hw⟩
  refine ⟨_, rfl, ?_⟩
  repeat (first | refine byW ?_ | (refine byV ?_; intro w hw))
  refine lBox ?_
  intro bp w hw
  repeat (first | refine byW ?_ | (refine byV ?_; intro w hw))
  have hw : Wd Γ1 (parB bp at' n c 0 (endP s) :: outB b2 b3 b4 hwZ.toArray p1 e1 S) w := hw
  refine WX_seq (WX_region ?_)
  repeat (first | refine byW ?_ | (refine byV ?_; intro w hw))
  refine L_callE ?_
  refine (hardware_any ht (by omega) hw).mono ?_
  rintro r w ⟨Γ2, hle2, hr⟩
  cases hH : hardwareP toks (endP s) with
  | error q =>
    obtain ⟨p, er⟩ := q
    rw [hH] at hr
    obtain ⟨rfl, hw⟩ := hr
    intro a ha hsz
    refine leaves_cons (by simp) rfl ((rec_pan rfl hw).mono ?_)
    rintro e u' w ⟨rfl, hu, hw⟩
    show Leaves _ _ _ _ [] (settle u') w
    rw [hu]
    unfold outB at hw
    exact ⟨_, results_resL (vs := [.agg hwZ.toArray, .agg (enc p).toArray, .int .i64 er]) (by decide) (by rw [ha]; exact ⟨resC (i := 0) hw rfl rfl rfl, resC (i := 1) hw rfl rfl rfl, resS (i := 2) hw rfl rfl rfl, trivial⟩), Γ2, _, hle.trans hle2, rfl, _, _, _, _, _, [], rfl, by simp, rfl, Wd.addNil (Wd.addNil (Wd.addNil (Wd.addNil (Wd.addNil (hw.ds [0, 0, 0])))))⟩
  | ok q =>
    obtain ⟨H, k⟩ := q
    rw [hH] at hr
    obtain ⟨u, rfl, v1, v2, v3, v4, v5, cs, hcs, hok, rfl, hw⟩ := hr
    unfold outB at hw
    obtain ⟨a1, n1, c1, rfl, -, -, -⟩ := hw.own_shape (i := 0) rfl
    obtain ⟨a2, n2, c2, rfl, -, -, -⟩ := hw.own_shape (i := 1) rfl
    obtain ⟨a3, n3, c3, rfl, -, -, -⟩ := hw.own_shape (i := 2) rfl
    obtain ⟨a4, n4, c4, rfl, -, -, -⟩ := hw.own_shape (i := 3) rfl
    obtain ⟨a5, n5, c5, rfl, -, -, -⟩ := hw.own_shape (i := 4) rfl
    show L _ _ _ _ _ _ _
    repeat (first | refine byW ?_ | (refine byV ?_; intro w hw))
    refine lStore (i := 5) ?_
    intro w hw
    refine lStore (i := 6) ?_
    intro w hw
    refine lStore (i := 7) ?_
    intro w hw
    have hw : Wd Γ2 (.own (.slice a1 n1 c1) 72 4 (H.Cores.map enc) :: .own (.slice a2 n2 c2) 75 5 (cs.map cC) :: .own (.slice a3 n3 c3) 77 3 (H.Links.map enc) :: .own (.slice a4 n4 c4) 79 5 (H.Mems.map enc) :: .own (.slice a5 n5 c5) 81 5 (H.Devs.map enc) :: outB b2 b3 b4 #[.string H.Name, .slice a1 n1 c1, .slice a2 n2 c2, .slice a3 n3 c3, .slice a4 n4 c4, .slice a5 n5 c5] default 0 S) w := hw
    refine L_nil ?_
    refine WX_ret ?_
    intro a ha hsz
    refine leaves_cons (by simp) rfl ((rec_ret hw _ rfl).mono ?_)
    rintro e u' w ⟨rfl, rfl, hw⟩
    show Leaves _ _ _ _ [] .returning w
    unfold outB at hw
    exact ⟨_, results_resL (vs := [.agg #[.string H.Name, .slice a1 n1 c1, .slice a2 n2 c2, .slice a3 n3 c3, .slice a4 n4 c4, .slice a5 n5 c5], .agg (enc (default : PosT)).toArray, .int .i64 0]) (by decide) (by rw [ha]; exact ⟨resC (i := 5) hw rfl rfl rfl, resC (i := 6) hw rfl rfl rfl, resS (i := 7) hw rfl rfl rfl, trivial⟩), Γ2, _, hle.trans hle2, rfl, _, _, _, _, _, cs, hcs, hok, rfl, hw.ds [5, 5, 5]⟩
end
end Go.Proofs.YtnkekcippfdbgaaGreat
end
/- The sanity check of the chapter: its examples. -/
section
open Go Mk
namespace Go.Proofs.YtnkekcippfdbgaaGreat
set_option maxHeartbeats 8000000
attribute [local irreducible] Calls

theorem HwOut.freeze {Γ : Gho} {S : List Res} {w : World} {H : HwT} {u : Value} (h : HwOut Γ H S u w) (hsz : HwSz H) : ∃ Γ', Γ.le Γ' ∧ HwR Γ' u H ∧ Wd Γ' S w := by
  obtain ⟨v1, v2, v3, v4, v5, cs, hcs, hok, rfl, hw⟩ := h
  obtain ⟨a1, n1, c1, rfl, -, -, -⟩ := hw.own_shape (i := 0) rfl
  obtain ⟨a2, n2, c2, rfl, -, -, -⟩ := hw.own_shape (i := 1) rfl
  obtain ⟨a3, n3, c3, rfl, -, -, -⟩ := hw.own_shape (i := 2) rfl
  obtain ⟨a4, n4, c4, rfl, -, -, -⟩ := hw.own_shape (i := 3) rfl
  obtain ⟨a5, n5, c5, rfl, -, -, -⟩ := hw.own_shape (i := 4) rfl
  obtain ⟨Γ1, e1, r1, hw⟩ := hw.freeze
  obtain ⟨Γ2, e2, r2, hw⟩ := hw.freeze
  obtain ⟨Γ3, e3, r3, hw⟩ := hw.freeze
  obtain ⟨Γ4, e4, r4, hw⟩ := hw.freeze
  obtain ⟨Γ5, e5, r5, hw⟩ := hw.freeze
  have f4 := e5
  have f3 := e4.trans f4
  have f2 := e3.trans f3
  have f1 := e2.trans f2
  exact ⟨Γ5, e1.trans f1, ⟨_, _, _, _, _, _, _, _, _, _, _, _, _, _, _, cs, rfl, hcs, fun c hc => (hok c hc).mono (e1.trans f1), hsz, r1.mono f1, r2.mono f2, r3.mono f3, r4.mono f4, r5⟩, hw⟩
def text1 : ByteArray := ⟨#[109, 97, 99, 104, 105, 110, 101, 32, 34, 109, 34, 32, 123, 32, 99, 111, 114, 101, 32, 48, 32, 123, 32, 119, 105, 100, 116, 104, 32, 51, 50, 59, 32, 110, 111, 100, 101, 32, 48, 59, 32, 115, 112, 101, 101, 100, 32, 49, 59, 32, 125, 32, 125]⟩
def text2 : ByteArray := ⟨#[109, 97, 99, 104, 105, 110, 101, 32, 34, 109, 34, 32, 123, 32, 99, 111, 114, 101, 32, 48, 32, 123, 32, 119, 105, 100, 116, 104, 32, 51, 51, 59, 32, 110, 111, 100, 101, 32, 48, 59, 32, 115, 112, 101, 101, 100, 32, 49, 59, 32, 125, 32, 125]⟩
def hw1 : HwT := ⟨⟨#[109]⟩, [⟨0, 32, 0, 1⟩], [], [], [], []⟩
def hw2 : HwT := ⟨⟨#[109]⟩, [⟨0, 33, 0, 1⟩], [], [], [], []⟩
theorem parse1 : parseS text1 = (hw1, ⟨0, 0⟩, 0) := by decide +kernel
theorem parse2 : parseS text2 = (hw2, ⟨0, 0⟩, 0) := by decide +kernel
theorem valid1 : validS hw1 = 0 := by
  have h1 : namesB hw1 = true := by decide +kernel
  have h2 : countsB hw1 = true := by decide +kernel
  have h3 : (coresRB hw1 && regionsRB hw1) = true := by decide +kernel
  have h4 : alignRB hw1 = true := by decide +kernel
  have h5 : uniqueB hw1 = true := by decide +kernel
  have h6 : knownB hw1 = true := by decide +kernel
  have h7 : hierB hw1 = true := decP_t ⟨fun c hc => (by cases hc), fun i k a b ha => (by cases ha)⟩
  have h8 : disjB hw1 = true := decP_t fun i k a b _ ha => by simp [hw1, regs] at ha
  have h9 : connB hw1 = true := decP_t fun n hn => by
    simp [hw1, usedN] at hn; subst hn; exact .refl
  simp [validS, h1, h2, h3, h4, h5, h6, h7, h8, h9]
theorem valid2 : validS hw2 = 6 := by
  have h1 : namesB hw2 = true := by decide +kernel
  have h2 : countsB hw2 = true := by decide +kernel
  have h3 : (coresRB hw2 && regionsRB hw2) = false := by decide +kernel
  simp [validS, h1, h2, h3]
theorem sz1 : HwSz hw1 := by unfold HwSz maxS; decide
theorem sz2 : HwSz hw2 := by unfold HwSz maxS; decide
theorem Parse_known {Γ : Gho} {S : List Res} {w : World} {s : ByteArray} {H : HwT} {p : PosT} {er : Int} (hs : s.size ≤ maxS0) (hp : parseS s = (H, p, er)) (hsz : HwSz H) (hw : Wd Γ S w) :
    Calls Tryz.prog 6 #[.string s] w fun r w' => ∃ Γ' u, Γ.le Γ' ∧ r = .returned (.tuple #[u, .agg #[.int .i64 p.Line, .int .i64 p.Col], .int .i64 er]) ∧ HwR Γ' u H ∧ Wd Γ' S w' := by
  refine (Parse_any s hs hw).mono ?_
  rintro r w ⟨Γ1, u, hle1, rfl, ho⟩
  rw [hp] at ho ⊢
  obtain ⟨Γ2, hle2, hR, hw⟩ := ho.freeze hsz
  exact ⟨Γ2, u, hle1.trans hle2, rfl, hR, hw⟩
theorem awake_any {Γ : Gho} {S : List Res} {w : World} (hw : Wd Γ S w) : Calls Tryz.prog 5 #[] w fun e w' => ∃ Γ', Γ.le Γ' ∧ e = .returned (.bool true) ∧ Wd Γ' S w' := by
  refine calls_of_W Tryz.func5 rfl rfl ?_
  repeat (first | refine byW ?_ | (refine byV ?_; intro w hw))
  refine lCall ?_
  refine (Parse_known (by decide) parse1 sz1 hw).mono ?_
  rintro r w ⟨Γ2, u, hle2, rfl, hR1, hw⟩
  refine ⟨_, rfl, ?_⟩
  obtain ⟨a1, n1, c1, a2, n2, c2, a3, n3, c3, a4, n4, c4, a5, n5, c5, cs, rfl, -, -, -, r1, -⟩ := hR1.h
  repeat (first | refine byW ?_ | (refine byV ?_; intro w hw))
  refine lAlloc ?_
  intro b1 w hw
  refine lAlloc ?_
  intro b2 w hw
  refine lStore ?_
  intro w hw
  refine lStore ?_
  intro w hw
  repeat (first | refine byW ?_ | (refine byV ?_; intro w hw))
  have hw : Wd Γ2 (.blk b2 (.cells (enc (⟨0, 0⟩ : PosT)).toArray 31) :: .blk b1 (hwC hw1 a1 n1 c1 a2 n2 c2 a3 n3 c3 a4 n4 c4 a5 n5 c5) :: S) w := hw
  refine lCall ?_
  refine (Parse_known (by decide) parse2 sz2 hw).mono ?_
  rintro r w ⟨Γ4, u2, hle4, rfl, hR2, hw⟩
  refine ⟨_, rfl, ?_⟩
  obtain ⟨A1, N1, C1, A2, N2, C2, A3, N3, C3, A4, N4, C4, A5, N5, C5, cs2, rfl, -⟩ := hR2.h
  haveI := hR1.mono hle4
  obtain ⟨hn1, -, -⟩ := rep_facts r1
  repeat (first | refine byW ?_ | (refine byV ?_; intro w hw))
  refine lAlloc ?_
  intro b4 w hw
  refine lAlloc ?_
  intro b5 w hw
  refine lStore ?_
  intro w hw
  refine lStore ?_
  intro w hw
  have hw : Wd Γ4 (.blk b5 (.cells (enc (⟨0, 0⟩ : PosT)).toArray 31) :: .blk b4 (hwC hw2 A1 N1 C1 A2 N2 C2 A3 N3 C3 A4 N4 C4 A5 N5 C5) :: .blk b2 (.cells (enc (⟨0, 0⟩ : PosT)).toArray 31) :: .blk b1 (hwC hw1 a1 n1 c1 a2 n2 c2 a3 n3 c3 a4 n4 c4 a5 n5 c5) :: S) w := hw
  repeat (first | refine byW ?_ | (refine byV ?_; intro w hw))
  refine ⟨_, rfl, Γ4, hle2.trans hle4, ret_b rfl ?_, hw.ds [0, 0, 0, 0]⟩
  have e1 : ¬ hw1 = hw2 := by decide +kernel
  have e2 : (n1 : Int) = 1 := by simp [hw1] at hn1; omega
  simp [valid1, valid2, e1, e2]
end Go.Proofs.YtnkekcippfdbgaaGreat
end
/- From a walk in these words to the given form of a statement; given lists of numbers, as the walk reads them. -/
section
open Go Mk
namespace Go.Proofs.YtnkekcippfdbgaaGreat
open Go.ChangeShapes Go.WideShapes Go.ChangeAt Go.RowKit

theorem own_knob : ownKnob Tryz.prog.godebug = none := by kernel_rfl
theorem keptBut_wd {W W' : World} {S : List Res} (h : Wd (allG W) S W') (may : MemPlace → Prop) : W.keptBut W' may := by
  refine ⟨h.os, h.out, fun i hi => ?_⟩
  have h1 : W.heap[i]? = some W.heap[i] := Array.getElem?_eq_getElem hi
  have h2 := h.imm i W.heap[i] h1
  rw [h1, h2]
  cases W.heap[i] <;> simp
/-- The arguments read as before; what is answered is true. -/
theorem post_wd {H : Type} {enc : TypeId × Value → H} {f : Func} {s : ChangeSpec} {W W' : World} {S : List Res} {args : Array Value} {v : Value} {ds gs : List (DataW H)} {before pa pv : List MemPlace} {apart : Bool}
    (hW : DataW.Whole enc Tryz.prog f.params.toList s.vars apart W args.toList ds gs before)
    (hres : ∀ (b : Nat) (sp : Nat → Bool) (hd : Bool), DataW.TrodAll enc Tryz.prog W' b sp hd f.resultTypes.toList (v.resultList f.resultTypes.size) (s.fn H (ds ++ gs)).results [])
    (hargs : ∀ sp : Nat → Bool, (∀ p ∈ before, sp p.block = true) → DataW.TrodAll enc Tryz.prog W' 0 sp true f.params.toList args.toList (s.fn H (ds ++ gs)).args pa)
    (hvars : ∀ sp : Nat → Bool, (∀ p ∈ before, sp p.block = true) → DataW.TrodVars enc Tryz.prog W' sp s.vars (s.fn H (ds ++ gs)).vars pv)
    (hps : before = pa ++ pv) (hk : Wd (allG W) S W') : s.post enc Tryz.prog f apart true false false W args v W' := by
  have hold : ∀ p ∈ before, (fun b => decide (b < W.heap.size)) p.block = true := fun p hp => by simpa using hW.lt p hp
  exact ⟨ds, gs, before, [], pa, pv, hW, hres _ _ _, hargs _ hold, hvars _ hold, keptBut_wd hk _, fun h => by cases h⟩
theorem wd_back {Γ Γ' : Gho} {w : World} (hle : Γ.le Γ') (h : Wd Γ' [] w) : Wd Γ [] w := by
  obtain ⟨h1, h2, h3, h4, h5, -⟩ := h
  exact ⟨h1.trans hle.os, h2.trans hle.tape, h3.trans hle.out, by rw [← hle.dr]; exact h4, fun b o hb => h5 b o (hle.imm b o hb), [], trivial, by simp, by simp⟩
section
variable {H : Type} {en : TypeId × Value → H} {W W' : World} {base : Nat} {sp : Nat → Bool} {held : Bool} {S : List Res}
theorem flat_inv {sz : Nat} : ∀ {rows : List (List Value)}, (∀ r ∈ rows, r.length = sz) → ∀ {j : Nat} {u : Value}, rows.flatten[j]? = some u → ∃ i r row, rows[i]? = some row ∧ row[r]? = some u ∧ j = i * sz + r
  | [], _, j, u, h => by simp at h
  | a :: rows, hl, j, u, h => by
    rw [List.flatten_cons] at h
    by_cases hj : j < a.length
    · rw [List.getElem?_append_left hj] at h
      exact ⟨0, j, a, rfl, h, by omega⟩
    · rw [List.getElem?_append_right (by omega)] at h
      obtain ⟨i, r, row, h1, h2, h3⟩ := flat_inv (fun r hr => hl r (List.mem_cons_of_mem _ hr)) h
      have ha := hl a (List.mem_cons_self ..)
      refine ⟨i + 1, r, row, by simpa using h1, h2, ?_⟩
      rw [Nat.add_mul, Nat.one_mul]; omega
theorem read_ints {n : Nat} {v : Value} {y : DataW H × List MemPlace} (h : DataW.trod en Tryz.prog W base sp held n 37 [v] = some y) : ∃ xs : List Int, RepS (allG W) v 1 (intRows xs) := by
  have hc : Tryz.prog.cellsOf 3 = 1 := by kernel_rfl
  rcases Deep.open_slice Tryz.underlying37 h with ⟨h0, -⟩ | ⟨a, len, cap, m, k, D, Pl, h0, -, hlc, hcm, hm, -, hel⟩
  · cases h0
    refine ⟨[], ?_⟩
    unfold RepS intRows
    exact ⟨by simp, none, 0, 0, rfl, rfl, by omega, Nat.zero_le _, fun hh => by simp at hh⟩
  · cases h0
    have hlm : len ≤ m := by rw [hm]; split <;> omega
    have hx : ∀ i, i < len → ∃ s : Int, ∀ j u, [Value.int .i64 s][j]? = some u → W.cell? (a.add (i * 1 + j)) = some u := fun i hi => by
      obtain ⟨cs', h1, h2⟩ := hel i (by omega)
      rw [hc] at h1
      obtain ⟨-, hl, hat⟩ := World.cells?_some h1
      obtain ⟨s, rfl, -⟩ := DataW.trod_int Tryz.underlying3 h2
      refine ⟨s, fun j u hu => ?_⟩
      have hj : j < 1 := by rw [← hl]; exact (List.getElem?_eq_some_iff.1 hu).1
      have := hat j hj
      rw [hu, Go.Deep.add_add] at this
      exact this
    have : ∃ f : Nat → Int, ∀ i, i < len → ∀ j u, [Value.int .i64 (f i)][j]? = some u → W.cell? (a.add (i * 1 + j)) = some u := by
      have dflt : Int := 0
      refine ⟨fun i => if hi : i < len then (hx i hi).choose else dflt, fun i hi => ?_⟩
      simp only [hi, dif_pos]
      exact (hx i hi).choose_spec
    obtain ⟨f, hf⟩ := this
    refine ⟨(List.range len).map f, ?_⟩
    unfold RepS intRows
    refine ⟨fun r hr => ?_, some a, len, cap, rfl, by simp, hlc, hcm, fun hpos => ?_⟩
    · obtain ⟨s, -, rfl⟩ := List.mem_map.1 hr
      rfl
    · have hpos : 0 < len := by simpa using hpos
      have h00 := hf 0 hpos 0 (.int .i64 (f 0)) rfl
      obtain ⟨g, o, spt⟩ := a
      have h01 : W.cell? ⟨g, o + 0, spt⟩ = some (.int .i64 (f 0)) := h00
      unfold World.cell? at h01
      cases hg : W.heap[g]? with
      | none => rw [hg] at h01; simp at h01
      | some ob =>
        rw [hg] at h01
        cases ob with
        | cells cur e fr =>
          cases spt with
          | some q => simp at h01
          | none =>
            refine ⟨g, o, cur, e, fr, rfl, hg, fun j u hj => ?_⟩
            obtain ⟨i, r, row, h1, h2, h3⟩ := flat_inv (sz := 1) (rows := ((List.range len).map f).map fun x => [Value.int .i64 x]) (fun r hr => by
              obtain ⟨s, -, rfl⟩ := List.mem_map.1 hr
              rfl) hj
            rw [List.getElem?_map, List.getElem?_map] at h1
            have hi : i < len := by
              by_cases hi : i < len
              · exact hi
              · rw [List.getElem?_eq_none (by simpa using hi)] at h1; simp at h1
            rw [List.getElem?_range hi] at h1
            simp only [Option.map_some, Option.some.injEq] at h1
            subst h1
            have h4 : W.cell? ⟨g, o + (i * 1 + r), none⟩ = some u := by
              have h5 := hf i hi r u h2
              rwa [show Addr.add ⟨g, o, none⟩ (i * 1 + r) = ⟨g, o + (i * 1 + r), none⟩ from by
                unfold Addr.add
                by_cases h0 : i * 1 + r = 0
                · rw [if_pos h0, h0]; rfl
                · rw [if_neg h0]] at h5
            unfold World.cell? at h4
            rw [hg] at h4
            rw [h3]
            simpa using h4
        | _ => simp at h01
theorem carry_all (hk : Wd (allG W) S W') : ∀ {ts : List TypeId} {vs : List Value} {ds : List (DataW H)} {ps : List MemPlace}, DataW.TrodAll en Tryz.prog W base sp held ts vs ds ps → (∀ p ∈ ps, p.block < W.heap.size) → DataW.TrodAll en Tryz.prog W' base sp held ts vs ds ps
  | [], [], [], _, h, _ => h
  | _ :: _, _ :: _, _ :: _, _, ⟨p, q, ⟨n, h1⟩, h2, e⟩, hs => ⟨p, q, ⟨n, DataW.trod_carry n _ _ _ h1 fun x hx => by
      have hb := hs x (by rw [e]; exact List.mem_append_left _ hx)
      cases x with
      | cell b off =>
        have h3 : W'.heap[b]? = W.heap[b]? := by
          have h4 : W.heap[b]? = some (W.heap[b]'hb) := Array.getElem?_eq_getElem hb
          rw [h4]; exact hk.imm b _ h4
        show W'.cell? _ = W.cell? _
        unfold World.cell?
        rw [h3]
      | map b =>
        have h4 : W.heap[b]? = some (W.heap[b]'hb) := Array.getElem?_eq_getElem hb
        show W'.heap[b]? = W.heap[b]?
        rw [h4]; exact hk.imm b _ h4⟩, carry_all hk h2 (fun x hx => hs x (by rw [e]; exact List.mem_append_right _ hx)), e⟩
end
theorem own_kids : Kids Tryz.prog (· < Tryz.prog.types.size) := kids_rows (by kernel_rfl) (by kernel_rfl)
theorem own_full : ∀ t e, t < Tryz.prog.types.size → Tryz.prog.underlying t = some (.slice e) → 0 < Tryz.prog.cellsOf e := slices_full_of _ (by kernel_rfl)
end Go.Proofs.YtnkekcippfdbgaaGreat
end
/- Insertion sort by swaps: its laws. -/
section
open Go Mk
namespace Mk
/-! Insertion sort by swaps, as slices.insertionSortCmpFunc does it. -/
section
variable {α : Type} {lt : α → α → Bool}
def bubC (lt : α → α → Bool) : Nat → List α → List α
  | 0, l => l
  | j + 1, l => match l[j + 1]?, l[j]? with
    | some x, some y => if lt x y then bubC lt j ((l.set (j + 1) y).set j x) else l
    | _, _ => l
def isF (lt : α → α → Bool) : Nat → Nat → List α → List α
  | 0, _, l => l
  | m + 1, i, l => isF lt m (i + 1) (bubC lt i l)
def isort (lt : α → α → Bool) (l : List α) : List α := isF lt (l.length - 1) 1 l
theorem bubC_step {j : Nat} {l : List α} {x y : α} (hx : l[j + 1]? = some x) (hy : l[j]? = some y) (h : lt x y = true) : bubC lt (j + 1) l = bubC lt j ((l.set (j + 1) y).set j x) := by
  simp [bubC, hx, hy, h]
theorem bubC_stop {j : Nat} {l : List α} {x y : α} (hx : l[j + 1]? = some x) (hy : l[j]? = some y) (h : lt x y = false) : bubC lt (j + 1) l = l := by
  simp [bubC, hx, hy, h]
theorem bubC_len : ∀ (j : Nat) (l : List α), (bubC lt j l).length = l.length
  | 0, l => rfl
  | j + 1, l => by
    unfold bubC
    split
    · split
      · rw [bubC_len j]; simp
      · rfl
    · rfl
theorem isF_len : ∀ (m i : Nat) (l : List α), (isF lt m i l).length = l.length
  | 0, _, _ => rfl
  | m + 1, i, l => by
    show (isF lt m (i + 1) (bubC lt i l)).length = _
    rw [isF_len m, bubC_len]
theorem isort_len (l : List α) : (isort lt l).length = l.length := isF_len _ _ _
theorem bubC_spec : ∀ (A : List α) (x : α) (B : List α), ∃ C D, A = C ++ D ∧ bubC lt A.length (A ++ x :: B) = C ++ x :: (D ++ B) ∧ (∀ d ∈ D, lt x d = true) ∧ (∀ c, C.getLast? = some c → lt x c = false) := by
  intro A
  generalize hn : A.length = n
  induction n generalizing A with
  | zero =>
    intro x B
    obtain rfl : A = [] := List.eq_nil_of_length_eq_zero hn
    exact ⟨[], [], rfl, rfl, by simp, by simp⟩
  | succ j ih =>
    intro x B
    have hne : A ≠ [] := by intro e; subst e; simp at hn
    obtain ⟨A', y, rfl⟩ : ∃ A' y, A = A' ++ [y] := ⟨A.dropLast, A.getLast hne, (List.dropLast_concat_getLast hne).symm⟩
    have hA' : A'.length = j := by simpa using hn
    have hx : (A' ++ [y] ++ x :: B)[j + 1]? = some x := by
      rw [List.getElem?_append_right (by simp [hA'])]; simp [hA']
    have hy : (A' ++ [y] ++ x :: B)[j]? = some y := by
      rw [List.append_assoc, List.getElem?_append_right (by omega)]; simp [hA']
    by_cases h : lt x y = true
    · rw [bubC_step hx hy h]
      have hs : ((A' ++ [y] ++ x :: B).set (j + 1) y).set j x = A' ++ x :: (y :: B) := by
        rw [List.append_assoc, List.set_append_right _ _ (by omega), List.set_append_right _ _ (by omega)]
        simp [hA']
      rw [hs]
      obtain ⟨C, D, h1, h2, h3, h4⟩ := ih A' hA' x (y :: B)
      refine ⟨C, D ++ [y], by rw [h1]; simp, by rw [h2]; simp, fun d hd => ?_, h4⟩
      rcases List.mem_append.1 hd with hd | hd
      · exact h3 d hd
      · rw [List.mem_singleton.1 hd]; exact h
    · have h : lt x y = false := by simpa using h
      rw [bubC_stop hx hy h]
      refine ⟨A' ++ [y], [], by simp, by simp, by simp, fun c hc => ?_⟩
      rw [List.getLast?_append] at hc
      simp at hc
      subst hc; exact h
/-- What sorting needs of 'less'. -/
structure Lt3 (lt : α → α → Bool) : Prop where
  asymm : ∀ x y, lt x y = true → lt y x = false
  ntrans : ∀ x y z, lt y x = false → lt z y = false → lt z x = false
theorem bubC_perm (A : List α) (x : α) (B : List α) : (bubC lt A.length (A ++ x :: B)).Perm (A ++ x :: B) := by
  obtain ⟨C, D, h1, h2, -, -⟩ := bubC_spec (lt := lt) A x B
  rw [h2, h1, List.append_assoc]
  exact List.Perm.append_left C (List.perm_middle.symm)
theorem bubC_sorted (hl : Lt3 lt) (A : List α) (x : α) (B : List α) (hA : A.Pairwise fun a b => lt b a = false) : ∃ A', A'.length = A.length + 1 ∧ bubC lt A.length (A ++ x :: B) = A' ++ B ∧ A'.Pairwise fun a b => lt b a = false := by
  obtain ⟨C, D, h1, h2, h3, h4⟩ := bubC_spec (lt := lt) A x B
  subst h1
  refine ⟨C ++ x :: D, by simp; omega, by rw [h2]; simp, ?_⟩
  obtain ⟨p1, p2, p3⟩ := List.pairwise_append.1 hA
  have hC : ∀ c ∈ C, lt x c = false := fun c hc => by
    have hne : C ≠ [] := fun e => by subst e; cases hc
    have hlast := h4 (C.getLast hne) (List.getLast?_eq_some_getLast hne)
    have hsp : C = C.dropLast ++ [C.getLast hne] := (List.dropLast_concat_getLast hne).symm
    rw [hsp] at hc p1
    rcases List.mem_append.1 hc with hc | hc
    · exact hl.ntrans _ _ _ ((List.pairwise_append.1 p1).2.2 c hc _ (List.mem_singleton.2 rfl)) hlast
    · rw [List.mem_singleton.1 hc]; exact hlast
  refine List.pairwise_append.2 ⟨p1, List.pairwise_cons.2 ⟨fun d hd => hl.asymm _ _ (h3 d hd), p2⟩, fun c hc b hb => ?_⟩
  rcases List.mem_cons.1 hb with rfl | hb
  · exact hC c hc
  · exact p3 c hc b hb
theorem isF_spec (hl : Lt3 lt) : ∀ (m : Nat) (A B : List α), B.length = m → (A.Pairwise fun a b => lt b a = false) → (isF lt m A.length (A ++ B)).Perm (A ++ B) ∧ (isF lt m A.length (A ++ B)).Pairwise fun a b => lt b a = false
  | 0, A, B, hB, hA => by
    obtain rfl : B = [] := List.eq_nil_of_length_eq_zero hB
    simpa [isF] using hA
  | m + 1, A, [], hB, _ => by simp at hB
  | m + 1, A, x :: B, hB, hA => by
    show (isF lt m (A.length + 1) (bubC lt A.length (A ++ x :: B))).Perm _ ∧ (isF lt m (A.length + 1) (bubC lt A.length (A ++ x :: B))).Pairwise _
    have hp := bubC_perm (lt := lt) A x B
    obtain ⟨A', h1, h2, h3⟩ := bubC_sorted hl A x B hA
    rw [h2] at hp ⊢
    rw [← h1]
    obtain ⟨q1, q2⟩ := isF_spec hl m A' B (by simpa using hB) h3
    exact ⟨q1.trans hp, q2⟩
theorem isort_spec (hl : Lt3 lt) (l : List α) : (isort lt l).Perm l ∧ (isort lt l).Pairwise fun a b => lt b a = false := by
  cases l with
  | nil => exact ⟨.refl _, .nil⟩
  | cons x l => exact isF_spec hl l.length [x] l rfl (List.pairwise_singleton ..)
theorem sorted_uniq : ∀ {xs ys : List α}, (∀ x ∈ xs, ∀ y ∈ xs, lt x y = false → lt y x = false → x = y) → (xs.Pairwise fun a b => lt b a = false) → (ys.Pairwise fun a b => lt b a = false) → ys.Perm xs → ys = xs
  | [], _, _, _, _, h => List.perm_nil.1 h
  | x :: xs, [], _, _, _, h => absurd h.length_eq (by simp)
  | x :: xs, y :: ys, he, hx, hy, h => by
    have hy1 : y ∈ x :: xs := h.subset (List.mem_cons_self ..)
    have hx1 : x ∈ y :: ys := h.symm.subset (List.mem_cons_self ..)
    have hxy : x = y := by
      rcases List.mem_cons.1 hy1 with e | e
      · exact e.symm
      · rcases List.mem_cons.1 hx1 with e2 | e2
        · exact e2
        · exact he x (List.mem_cons_self ..) y hy1 ((List.pairwise_cons.1 hy).1 x e2) ((List.pairwise_cons.1 hx).1 y e)
    subst hxy
    rw [sorted_uniq (fun a ha b hb => he a (List.mem_cons_of_mem _ ha) b (List.mem_cons_of_mem _ hb)) (List.pairwise_cons.1 hx).2 (List.pairwise_cons.1 hy).2 (List.Perm.cons_inv h)]
/-- Lists with the same elements have the same sorted form, if keys tell them apart. -/
theorem isort_perm (hl : Lt3 lt) {l l' : List α} (he : ∀ x ∈ l, ∀ y ∈ l, lt x y = false → lt y x = false → x = y) (hp : l'.Perm l) : isort lt l' = isort lt l := by
  obtain ⟨p1, s1⟩ := isort_spec hl l
  obtain ⟨p2, s2⟩ := isort_spec hl l'
  exact sorted_uniq (fun x hx y hy => he x (p1.subset hx) y (p1.subset hy)) s1 s2 (p2.trans (hp.trans p1.symm))
end
end Mk
end
/- A field of an element of an owned slice is written. -/
section
open Go
namespace Mk
section
variable {P : Program} {n : Nat} {opa : Array Oper} {Γ : Gho} {S : List Res} {QQ : Exit → Fr → World → Prop} {K : Value → World → Prop} {ρ : Fr} {w : World} {rest : List Oper} {sz : Nat} {rows : List (List Value)}
variable {d : Option Tmp} {T U ty : TypeId} {pos : String} {es : Array Edge} {g : Option (Nat × Bool)} {x y z : Operand} {v : Value}
theorem field_set {L r : List Value} {p f m sz N : Nat} (hp : p + sz ≤ N) (hN : N ≤ L.length) (hr : r.length = m) (hfm : f + m ≤ sz) :
    (L.take (p + f) ++ r ++ L.drop (p + f + r.length)).take N = (L.take N).take p ++ (((L.drop p).take sz).take f ++ r ++ ((L.drop p).take sz).drop (f + m)) ++ (L.take N).drop (p + sz) := by
  refine List.ext_getElem? fun i => ?_
  simp only [List.getElem?_append, List.getElem?_take, List.getElem?_drop, List.length_append, List.length_take, List.length_drop, hr]
  repeat' split
  all_goals first | omega | rfl | (congr 1; omega) | skip
/-- Some cells of an element of an owned slice are written. -/
theorem s_storeEf {E k f m i n c : Nat} {a : Option Addr} {v : Value} {r row : List Value} (hn : (P.info? T).map (·.size) = some m) (hw : Wd Γ S w) (hx : ev ρ x = .pointer (some ⟨aB a, aO a + k * sz + f, none⟩)) (hy : ev ρ y = v) (hv : v.cells.toList = r) (hl : r.length = m)
    (h1 : r.all (·.oneCell') = true) (hi : S[i]? = some (.own (.slice a n c) E sz rows)) (hkl : k < n) (hrow : rows[k]? = some row) (hfm : f + m ≤ sz) (hk : ∀ w', Wd Γ (S.set i (.own (.slice a n c) E sz (rows.set k (row.take f ++ r ++ row.drop (f + m))))) w' → K undef w') : Step P ⟨d, .store T x y, ty, pos, es, g⟩ ρ w K := by
  obtain ⟨bs0, hr0⟩ := hw.own_holds hi
  unfold Res.own at hr0
  obtain ⟨q0, a', n', c', e1, e2, e3, e4, e5⟩ := hr0
  cases e1
  rcases e5 with ⟨hc, _⟩ | ⟨b, cur, g1, g2, g3, g4, g5⟩
  · omega
  · subst g1
    have hrl : row.length = sz := q0 row (List.mem_of_getElem? hrow)
    have hnew : (row.take f ++ r ++ row.drop (f + m)).length = sz := by simp [hl, hrl]; omega
    have hx' : ev ρ x = .pointer (some ⟨b, k * sz + f, none⟩) := by rw [hx]; simp [aB, aO]
    have hks : k * sz + sz ≤ cur.size := by
      rw [g4, show k * sz + sz = (k + 1) * sz from by rw [Nat.add_mul]; omega]; exact Nat.mul_le_mul_right _ (by omega)
    have hfit : k * sz + f + 0 + r.length ≤ cur.size := by rw [hl]; omega
    have hst := run_storeCells_at P b (k * sz + f) E r 0 cur w g3 hfit (fun u hu => (List.all_eq_true.1 h1) u hu)
    simp only [Nat.add_zero] at hst
    have hsz : v.cells.size = m := by rw [← hl, ← hv]; simp
    have hr : (execOp (ev ρ) ⟨d, .store T x y, ty, pos, es, g⟩).run P w = .ok .skip (w.setRow b (cur.toList.take (k * sz + f) ++ r ++ cur.toList.drop (k * sz + f + r.length)).toArray) := by
      cases hq : P.info? T with
      | none => simp [hq] at hn
      | some q =>
        have hs : q.size = m := by simpa [hq] using hn
        have hz : (Go.sizeOf T).run P w = .ok m w := by simp [Go.sizeOf, typeInfo, hq, hs]
        have hsv : (storeVar T ⟨b, k * sz + f, none⟩ v).run P w = .ok () (w.setRow b (cur.toList.take (k * sz + f) ++ r ++ cur.toList.drop (k * sz + f + r.length)).toArray) := by
          unfold storeVar
          rw [Sem.run_bind, hz]
          simp only [Result.andThen_ok, hsz, ne_eq, not_true_eq_false, if_false, hv]
          exact hst
        simp only [execOp, hx', hy, Instr.storeAt, Instr.sureAddr, Sem.run_bind, Sem.run_pure, Result.andThen_ok, hsv]
    have hfin := hk _ (hw.upd hi (w' := w.setRow b (cur.toList.take (k * sz + f) ++ r ++ cur.toList.drop (k * sz + f + r.length)).toArray) ⟨rfl, rfl, rfl, (by first | exact Nat.le_refl _ | exact Nat.le_succ _), by simp⟩ fun bs hr' hnd hlt => by
      unfold Res.own at hr' ⊢
      obtain ⟨q0', a2, n2, c2, f1, f2, f3, f4, f5⟩ := hr'
      cases f1
      rcases f5 with ⟨hc, _⟩ | ⟨b2, cur2, k1, k2, k3, k4, k5⟩
      · omega
      · cases k1
        rw [show hp w b = some (.cells cur E (0, 0)) from g3] at k3; cases k3
        refine ⟨bs, ⟨?_, _, _, _, rfl, by simpa using f2, f3, f4, .inr ⟨b, _, rfl, k2, setRow_heap w b cur _ E _ g3, ?_, ?_⟩⟩, hnd, fun x hx => ⟨by have := hlt x hx; simpa using this, .inl hx⟩, fun k' _ hne => setRow_other w b k' _ (fun e => hne (by simp [k2, e]))⟩
        · intro r' hr'
          rcases List.mem_or_eq_of_mem_set hr' with h | rfl
          · exact q0 r' h
          · exact hnew
        · simp only [List.size_toArray, List.length_append, List.length_take, List.length_drop, Array.length_toList]; omega
        · have hkn : k * sz + sz ≤ n * sz := by rw [show k * sz + sz = (k + 1) * sz from by rw [Nat.add_mul]; omega]; exact Nat.mul_le_mul_right _ (by omega)
          have hns : n * sz ≤ cur.toList.length := by rw [Array.length_toList, g4]; exact Nat.mul_le_mul_right _ e3
          have e0 := rows_set_flatten (k := k) (r := row) q0 hrl (by omega)
          have e9 : rows.set k row = rows := by
            refine List.ext_getElem? fun i => ?_
            rw [List.getElem?_set]
            split
            · rename_i h; subst h; rw [hrow]; simp; omega
            · rfl
          rw [e9] at e0
          rw [rows_set_flatten q0 hnew (by omega), ← g5]
          have hrw : row = (cur.toList.drop (k * sz)).take sz := by
            have : row = ((cur.toList.take (n * sz)).drop (k * sz)).take sz := by
              rw [g5, e0, List.append_assoc, List.drop_append_of_le_length (by rw [List.length_take, ← g5, List.length_take]; omega)]
              have : ((rows.flatten.take (k * sz)).drop (k * sz)) = [] := by rw [List.drop_eq_nil_iff, List.length_take]; omega
              rw [this, List.nil_append, List.take_append_of_le_length (by omega), List.take_of_length_le (by omega)]
            rw [this, List.drop_take, List.take_take, Nat.min_eq_left (by omega)]
          rw [hrw]
          exact field_set hkn hns hl hfm
        )
    unfold Step; rw [hr]; exact hfin

theorem lStoreEf {E k f i m mm c sz : Nat} {a : Option Addr} {r row : List Value} {rows : List (List Value)} [hn : TSz P T m] (h : ∀ w', Wd Γ (S.set i (.own (.slice a mm c) E sz (rows.set k (row.take f ++ r ++ row.drop (f + m))))) w' → L P n opa QQ rest ρ w') (hrow : rows[k]? = some row) (hw : Wd Γ S w := by exact hw) (hx : ev ρ x = .pointer (some ⟨aB a, aO a + k * sz + f, none⟩) := by exact rfl)
    (hy : ev ρ y = v := by exact byMV) (hv : v.cells.toList = r := by exact rfl) (hl : r.length = m := by exact rfl) (h1 : r.all (·.oneCell') = true := by exact rfl) (hi : S[i]? = some (.own (.slice a mm c) E sz rows) := by exact byIX) (hk : k < mm := by omega) (hfm : f + m ≤ sz := by omega) :
    L P n opa QQ (⟨none, .store T x y, ty, pos, es, none⟩ :: rest) ρ w := L_step rfl rfl (s_storeEf hn.h hw hx hy hv hl h1 hi hk hrow hfm h)
end
end Mk
end
/- Drawn regions: steps that change one or two cells; cells of which only a relation is known. -/
section
open Go
namespace Mk
attribute [local irreducible] Calls
theorem W_cutB {P : Program} {n id : Nat} {c : Code} {K : Fr → World → Prop} {Q : Exit → Fr → World → Prop} {ρ : Fr} {w : World} (I : Fr → World → Prop) (h1 : W P n c (InBl id (Then I Q)) ρ w) (h2 : ∀ ρ w, I ρ w → K ρ w) : W P n c (InBl id (Then K Q)) ρ w :=
  h1.mono fun e ρ w h => by
    cases e with
    | normal => exact h2 ρ w h
    | exit i =>
      simp only [InBl] at h ⊢
      split <;> rename_i hi <;> simp only [hi, if_true, if_false] at h
      · exact h2 ρ w h
      · exact h
    | _ => exact h
theorem W_cutT {P : Program} {n : Nat} {c : Code} {K : Fr → World → Prop} {Q : Exit → Fr → World → Prop} {ρ : Fr} {w : World} (I : Fr → World → Prop) (h1 : W P n c (Then I Q) ρ w) (h2 : ∀ ρ w, I ρ w → K ρ w) : W P n c (Then K Q) ρ w :=
  h1.mono fun e ρ w h => by
    cases e with
    | normal => exact h2 ρ w h
    | _ => exact h
section
variable {P : Program} {n : Nat} {ops : List Oper} {Γ : Gho} {K : List Res} {wr tc stab : List (List Nat)} {Q : Fr → World → Prop} {i : Nat} {rest : List Oper} {ρ : Fr} {w : World} {M : Nat → Fr → List Res} {v : Value} {T T' : Type} {o : Oper}
variable {ty : TypeId} {pos : String} {es : Array Edge}
theorem ml1 {a b d : Fr → List Res} : ML [a, b, d] 1 = b := rfl
theorem ml2 {a b d : Fr → List Res} : ML [a, b, d] 2 = d := rfl
theorem exC_open {φ : T → Fr → Prop} {R : T → List Res} {g : Fr} {Z : List Res} (h : Wd Γ (exC φ R g ++ Z) w) : ∃ t, φ t g ∧ Wd Γ (R t ++ Z) w := by
  obtain ⟨⟨t, ht⟩, hw⟩ := Wd.openEx (S := Z) h
  exact ⟨t, ht, hw⟩
theorem exC_mk {φ : T → Fr → Prop} {R : T → List Res} {g : Fr} {Z : List Res} (t : T) (ht : φ t g) (h : Wd Γ (R t ++ Z) w) : Wd Γ (exC φ R g ++ Z) w :=
  Wd.closeEx (X := fun p : {t : T // φ t g} => R p.1) ⟨t, ht⟩ h
theorem mM2 {c c2 : Nat} (m m2 : Fr → List Res) (hs : ∀ Y w g, Wd Γ (K ++ (cellsAt tc stab i M g ++ Y)) w → Step P o (ovr stab.flatten g ρ) w fun u w' => Wd Γ (K ++ (cellsAt tc stab i (setC (setC M c m) c2 m2) (putO g o.dst u) ++ Y)) w' ∧ (freeD stab o.dst = false → u = v))
    (h : MSw (mV P n ops Γ K wr tc stab) Q (i + 1) rest ⟨putO ρ o.dst v, setC (setC M c m) c2 m2⟩) (hw0 : wr.getD i [] = [c, c2]) (hg : o.guard = none) : MSw (mV P n ops Γ K wr tc stab) Q i (o :: rest) ⟨ρ, M⟩ := by
  have hn : Mt.nxt (mV P n ops Γ K wr tc stab) i ⟨ρ, M⟩ ⟨v, setC (setC M c m) c2 m2⟩ = setC (setC M c m) c2 m2 := by
    funext y
    simp only [Mt.nxt, MEnv.w, hw0]
    unfold setC
    by_cases h1 : y = c <;> by_cases h2 : y = c2 <;> simp [h1, h2]
  refine ⟨⟨v, setC (setC M c m) c2 m2⟩, ⟨fun Γ' Y w g hr hw => ?_⟩, ?_⟩
  · have hΓ : Γ' = Γ := hr
    subst hΓ
    rw [hn]
    refine ⟨fun _ => (hs Y w g hw).mono fun u w' ⟨h1, h2⟩ => ⟨Γ', rfl, h1, h2⟩, fun hf => ?_⟩
    rw [wantF_none hg] at hf; cases hf
  · simp only [Mt.next, hn]; exact h
/-- A step that changes the cell c. -/
theorem mS {c : Nat} {F : Fr → List Res} (F' : Fr → List Res)
    (hs : ∀ g w Y, Wd Γ (F (ovr (stab.getD c []) g noFr) ++ (K ++ Y)) w → Step P o (ovr stab.flatten g ρ) w fun u w' => (freeD stab o.dst = false → u = v) ∧ Wd Γ (F' (ovr (stab.getD c []) (putO g o.dst u) noFr) ++ (K ++ Y)) w')
    (h : MSw (mV P n ops Γ K wr tc stab) Q (i + 1) rest ⟨putO ρ o.dst v, setC M c F'⟩) (hM : M c = F := by first | exact setC_self | exact ml1 | exact ml2 | exact ((setC_other (by decide)).trans setC_self) | exact ((setC_other (by decide)).trans ml2) | exact ((setC_other (by decide)).trans ((setC_other (by decide)).trans ml2)) | exact ((setC_other (by decide)).trans ((setC_other (by decide)).trans ((setC_other (by decide)).trans ml2))) | exact ((setC_other (by decide)).trans ((setC_other (by decide)).trans setC_self)) | exact rfl) (hw0 : wr.getD i [] = [c] := by exact rfl) (ht : tc.getD i [] = [c] := by exact rfl) (hg : o.guard = none := by exact rfl) :
    MSw (mV P n ops Γ K wr tc stab) Q i (o :: rest) ⟨ρ, M⟩ := by
  refine mM _ (fun Y w g hw => ?_) h hw0 hg
  rw [cells1 ht, hM] at hw
  refine (hs g w Y hw.swapApp).mono ?_
  rintro u w' ⟨h2, h3⟩
  refine ⟨?_, h2⟩
  rw [cells1 ht, setC_self]
  exact h3.swapApp
/-- A step that changes the cells c and c2. -/
theorem mS2 {c c2 : Nat} {F G : Fr → List Res} (F' G' : Fr → List Res)
    (hs : ∀ g w Y, Wd Γ (F (ovr (stab.getD c []) g noFr) ++ (G (ovr (stab.getD c2 []) g noFr) ++ (K ++ Y))) w → Step P o (ovr stab.flatten g ρ) w fun u w' => (freeD stab o.dst = false → u = v) ∧ Wd Γ (F' (ovr (stab.getD c []) (putO g o.dst u) noFr) ++ (G' (ovr (stab.getD c2 []) (putO g o.dst u) noFr) ++ (K ++ Y))) w')
    (h : MSw (mV P n ops Γ K wr tc stab) Q (i + 1) rest ⟨putO ρ o.dst v, setC (setC M c F') c2 G'⟩) (hM : M c = F := by first | exact setC_self | exact ml1 | exact ml2 | exact ((setC_other (by decide)).trans setC_self) | exact ((setC_other (by decide)).trans ml2) | exact ((setC_other (by decide)).trans ((setC_other (by decide)).trans ml2)) | exact ((setC_other (by decide)).trans ((setC_other (by decide)).trans ((setC_other (by decide)).trans ml2))) | exact ((setC_other (by decide)).trans ((setC_other (by decide)).trans setC_self)) | exact rfl) (hM2 : M c2 = G := by first | exact setC_self | exact ml1 | exact ml2 | exact ((setC_other (by decide)).trans setC_self) | exact ((setC_other (by decide)).trans ml2) | exact ((setC_other (by decide)).trans ((setC_other (by decide)).trans ml2)) | exact ((setC_other (by decide)).trans ((setC_other (by decide)).trans ((setC_other (by decide)).trans ml2))) | exact ((setC_other (by decide)).trans ((setC_other (by decide)).trans setC_self)) | exact rfl) (hw0 : wr.getD i [] = [c, c2] := by exact rfl) (ht : tc.getD i [] = [c, c2] := by exact rfl) (hcc : Nat.beq c c2 = false := by exact rfl) (hg : o.guard = none := by exact rfl) :
    MSw (mV P n ops Γ K wr tc stab) Q i (o :: rest) ⟨ρ, M⟩ := by
  have hne : c ≠ c2 := fun e => by subst e; simp at hcc
  refine mM2 _ _ (fun Y w g hw => ?_) h hw0 hg
  rw [cells2 ht, hM, hM2] at hw
  have hw1 := (hw.perm (by rw [List.append_assoc]; exact (List.perm_append_comm_assoc _ _ _).trans (List.Perm.append_left _ (List.perm_append_comm_assoc _ _ _)))  : Wd Γ (F (ovr (stab.getD c []) g noFr) ++ (G (ovr (stab.getD c2 []) g noFr) ++ (K ++ Y))) w)
  refine (hs g w Y hw1).mono ?_
  rintro u w' ⟨h2, h3⟩
  refine ⟨?_, h2⟩
  rw [cells2 ht, setC_self, setC_other hne, setC_self]
  exact h3.perm (by rw [List.append_assoc]; exact ((List.perm_append_comm_assoc _ _ _).trans (List.Perm.append_left _ (List.perm_append_comm_assoc _ _ _))).symm)
/-- A slice is built. -/
theorem mBuildX {c dd E by' len sz : Nat} {zs : List Value} {parts : Array (Nat × Operand)} {TT : TypeId} {φ : T → Fr → Prop} {R : T → List Res} (rws : T → List (List Value)) [TL P TT E sz by' zs]
    (h : MSw (mV P n ops Γ K wr tc stab) Q (i + 1) rest ⟨putO ρ (some dd) undef, setC M c (exC (fun (p : T × Addr) g => φ p.1 g ∧ g dd = .slice (some p.2) len len) fun p => .own (.slice (some p.2) len len) E sz (rws p.1) :: R p.1)⟩)
    (hf : ∀ t g, φ t (ovr (stab.getD c []) g noFr) → fillL (fun i => some (i * sz, sz)) ((List.range (len * sz)).map fun i => zs.getD (i % sz) undef) (parts.toList.map fun p => (p.1, ev (ovr stab.flatten g ρ) p.2)) = some (rws t).flatten)
    (hw0 : wr.getD i [] = [c] := by exact rfl) (ht : tc.getD i [] = [c] := by exact rfl) (hM : M c = exC φ R := by first | exact setC_self | exact ml1 | exact ml2 | exact ((setC_other (by decide)).trans setC_self) | exact ((setC_other (by decide)).trans ml2) | exact ((setC_other (by decide)).trans ((setC_other (by decide)).trans ml2)) | exact ((setC_other (by decide)).trans ((setC_other (by decide)).trans ((setC_other (by decide)).trans ml2))) | exact ((setC_other (by decide)).trans ((setC_other (by decide)).trans setC_self)) | exact rfl) (hφ : ∀ t g u, φ t (ovr (stab.getD c []) g noFr) → φ t (ovr (stab.getD c []) (putO g (some dd) u) noFr) := by intro t g u h; exact h)
    (hlen : ∀ t, (rws t).length = len := by intro t; rfl) (hr : ∀ t, (rws t).all (fun r => Nat.beq r.length sz) = true := by intro t; rfl) (hbig : Nat.ble (len * sz) 16777216 = true := by exact rfl)
    (hs : (stab.getD c []).contains dd = true := by exact rfl) (hfr : freeD stab (some dd) = true := by exact rfl) :
    MSw (mV P n ops Γ K wr tc stab) Q i (⟨some dd, .buildSlice TT len parts, ty, pos, es, none⟩ :: rest) ⟨ρ, M⟩ :=
  mS (v := undef) (exC (fun (p : T × Addr) g => φ p.1 g ∧ g dd = .slice (some p.2) len len) fun p => .own (.slice (some p.2) len len) E sz (rws p.1) :: R p.1) (fun g w Y hw => by
    obtain ⟨t, h1, hw⟩ := exC_open hw
    refine s_buildSlice (rws := rws t) hw (hf t g h1) rfl (hlen t) (fun r hm => Nat.eq_of_beq_eq_true ((List.all_eq_true.1 (hr t)) r hm)) (Nat.le_of_ble_eq_true hbig) fun a w' hw' => ⟨fun hh => (by rw [hfr] at hh; cases hh), exC_mk (t, a) ⟨hφ t g _ h1, ?_⟩ hw'⟩
    rw [ovr_in (by simpa using hs)]; exact upd_same _ _ _) h hM hw0 ht rfl
/-- A slice is built of what lies in two cells. -/
theorem mBuild2X {T2 : Type} {c c2 dd E by' len sz : Nat} {zs : List Value} {parts : Array (Nat × Operand)} {TT : TypeId} {φ : T → Fr → Prop} {R : T → List Res} {ψ : T2 → Fr → Prop} {R2 : T2 → List Res} (rws : T → T2 → List (List Value)) [TL P TT E sz by' zs]
    (h : MSw (mV P n ops Γ K wr tc stab) Q (i + 1) rest ⟨putO ρ (some dd) undef, setC (setC M c (exC (fun (p : (T × T2) × Addr) g => φ p.1.1 g ∧ g dd = .slice (some p.2) len len) fun p => .own (.slice (some p.2) len len) E sz (rws p.1.1 p.1.2) :: (R2 p.1.2 ++ R p.1.1))) c2 fun _ => []⟩)
    (hf : ∀ t t2 g, φ t (ovr (stab.getD c []) g noFr) → ψ t2 (ovr (stab.getD c2 []) g noFr) → fillL (fun i => some (i * sz, sz)) ((List.range (len * sz)).map fun i => zs.getD (i % sz) undef) (parts.toList.map fun p => (p.1, ev (ovr stab.flatten g ρ) p.2)) = some (rws t t2).flatten)
    (hw0 : wr.getD i [] = [c, c2] := by exact rfl) (ht : tc.getD i [] = [c, c2] := by exact rfl) (hcc : Nat.beq c c2 = false := by exact rfl) (hM : M c = exC φ R := by first | exact setC_self | exact ml1 | exact ml2 | exact ((setC_other (by decide)).trans setC_self) | exact ((setC_other (by decide)).trans ml2) | exact ((setC_other (by decide)).trans ((setC_other (by decide)).trans ml2)) | exact ((setC_other (by decide)).trans ((setC_other (by decide)).trans setC_self)) | exact rfl) (hM2 : M c2 = exC ψ R2 := by first | exact setC_self | exact ml1 | exact ml2 | exact ((setC_other (by decide)).trans setC_self) | exact ((setC_other (by decide)).trans ml2) | exact ((setC_other (by decide)).trans ((setC_other (by decide)).trans ml2)) | exact ((setC_other (by decide)).trans ((setC_other (by decide)).trans setC_self)) | exact rfl)
    (hφ : ∀ t g u, φ t (ovr (stab.getD c []) g noFr) → φ t (ovr (stab.getD c []) (putO g (some dd) u) noFr) := by intro t g u h; exact h) (hlen : ∀ t t2, (rws t t2).length = len := by intro t t2; rfl) (hr : ∀ t t2, (rws t t2).all (fun r => Nat.beq r.length sz) = true := by intro t t2; rfl) (hbig : Nat.ble (len * sz) 16777216 = true := by exact rfl)
    (hs : (stab.getD c []).contains dd = true := by exact rfl) (hfr : freeD stab (some dd) = true := by exact rfl) :
    MSw (mV P n ops Γ K wr tc stab) Q i (⟨some dd, .buildSlice TT len parts, ty, pos, es, none⟩ :: rest) ⟨ρ, M⟩ :=
  mS2 (v := undef) (exC (fun (p : (T × T2) × Addr) g => φ p.1.1 g ∧ g dd = .slice (some p.2) len len) fun p => .own (.slice (some p.2) len len) E sz (rws p.1.1 p.1.2) :: (R2 p.1.2 ++ R p.1.1)) (fun _ => []) (fun g w Y hw => by
    obtain ⟨t, h1, hw⟩ := exC_open hw
    obtain ⟨t2, h2, hw⟩ := exC_open (hw.perm (List.perm_append_comm_assoc _ _ _))
    have hw : Wd Γ ((R2 t2 ++ R t) ++ (K ++ Y)) w := by rw [List.append_assoc]; exact hw
    refine s_buildSlice (rws := rws t t2) hw (hf t t2 g h1 h2) rfl (hlen t t2) (fun r hm => Nat.eq_of_beq_eq_true ((List.all_eq_true.1 (hr t t2)) r hm)) (Nat.le_of_ble_eq_true hbig) fun a w' hw' => ⟨fun hh => (by rw [hfr] at hh; cases hh), exC_mk ((t, t2), a) ⟨hφ t g _ h1, ?_⟩ hw'⟩
    rw [ovr_in (by simpa using hs)]; exact upd_same _ _ _) h hM hM2 hw0 ht hcc rfl
/-- A value is reckoned that hangs on open slots. -/
theorem mPureX {c dd : Nat} {op : Op} {φ : T → Fr → Prop} {R : T → List Res} (u : T → Value)
    (hy : ∀ t g w Y, φ t (ovr (stab.getD c []) g noFr) → Wd Γ (R t ++ (K ++ Y)) w → Yields P ⟨some dd, op, ty, pos, es, none⟩ (ovr stab.flatten g ρ) w (u t))
    (h : MSw (mV P n ops Γ K wr tc stab) Q (i + 1) rest ⟨putO ρ (some dd) undef, setC M c (exC (fun t g => φ t g ∧ g dd = u t) R)⟩)
    (hw0 : wr.getD i [] = [c] := by exact rfl) (ht : tc.getD i [] = [c] := by exact rfl) (hM : M c = exC φ R := by first | exact setC_self | exact ml1 | exact ml2 | exact ((setC_other (by decide)).trans setC_self) | exact ((setC_other (by decide)).trans ml2) | exact ((setC_other (by decide)).trans ((setC_other (by decide)).trans ml2)) | exact ((setC_other (by decide)).trans ((setC_other (by decide)).trans ((setC_other (by decide)).trans ml2))) | exact ((setC_other (by decide)).trans ((setC_other (by decide)).trans setC_self)) | exact rfl) (hφ : ∀ t g u, φ t (ovr (stab.getD c []) g noFr) → φ t (ovr (stab.getD c []) (putO g (some dd) u) noFr) := by intro t g u h; exact h)
    (hs : (stab.getD c []).contains dd = true := by exact rfl) (hfr : freeD stab (some dd) = true := by exact rfl) :
    MSw (mV P n ops Γ K wr tc stab) Q i (⟨some dd, op, ty, pos, es, none⟩ :: rest) ⟨ρ, M⟩ :=
  mS (v := undef) (exC (fun t g => φ t g ∧ g dd = u t) R) (fun g w Y hw => by
    obtain ⟨t, h1, hw⟩ := exC_open hw
    refine (hy t g w Y h1 hw).step ⟨fun hh => (by rw [hfr] at hh; cases hh), exC_mk t ⟨hφ t g _ h1, ?_⟩ hw⟩
    rw [ovr_in (by simpa using hs)]; exact upd_same _ _ _) h hM hw0 ht rfl
/-- An append onto what is owned. -/
theorem mAppX {c dd j j2 E by' sz m cc m2 c2 : Nat} {zs : List Value} {a : Option Addr} {rows : List (List Value)} {TT : TypeId} {x y : Operand} {φ : T → Fr → Prop} {R : T → List Res} (a2 : T → Option Addr) (rows2 : T → List (List Value)) [TL P TT E sz by' zs]
    (h : MSw (mV P n ops Γ K wr tc stab) Q (i + 1) rest ⟨putO ρ (some dd) undef, setC M c (exC (fun (p : T × Value) g => φ p.1 g ∧ g dd = p.2) fun p => (R p.1).set j (.own p.2 E sz (rows ++ rows2 p.1)))⟩)
    (hy : ∀ t g, φ t (ovr (stab.getD c []) g noFr) → ev (ovr stab.flatten g ρ) y = .slice (a2 t) m2 c2) (hw0 : wr.getD i [] = [c] := by exact rfl) (ht : tc.getD i [] = [c] := by exact rfl) (hM : M c = exC φ R := by first | exact setC_self | exact ml1 | exact ml2 | exact ((setC_other (by decide)).trans setC_self) | exact ((setC_other (by decide)).trans ml2) | exact ((setC_other (by decide)).trans ((setC_other (by decide)).trans ml2)) | exact ((setC_other (by decide)).trans ((setC_other (by decide)).trans ((setC_other (by decide)).trans ml2))) | exact ((setC_other (by decide)).trans ((setC_other (by decide)).trans setC_self)) | exact rfl) (hj : ∀ t, (R t)[j]? = some (.own (.slice a m cc) E sz rows) := by intro t; exact rfl) (hj2 : ∀ t, (R t)[j2]? = some (.own (.slice (a2 t) m2 c2) E sz (rows2 t)) := by intro t; exact rfl)
    (h1 : ∀ t, (rows2 t).flatten.all (·.oneCell') = true := by intro t; rfl) (hx : ∀ g, ev (ovr stab.flatten g ρ) x = .slice a m cc := by intro g; exact rfl)
    (hφ : ∀ t g u, φ t (ovr (stab.getD c []) g noFr) → φ t (ovr (stab.getD c []) (putO g (some dd) u) noFr) := by intro t g u h; exact h)
    (hb : (m + m2) * by' ≤ 140737488355328 := by omega) (h63 : m + m2 ≤ 9223372036854775807 := by omega) (hl2 : ∀ t, m2 = (rows2 t).length := by intro t; rfl)
    (hs : (stab.getD c []).contains dd = true := by exact rfl) (hfr : freeD stab (some dd) = true := by exact rfl) :
    MSw (mV P n ops Γ K wr tc stab) Q i (⟨some dd, .call { callee := .builtin .append, args := #[x, y], argTypes := #[TT, TT] }, ty, pos, es, none⟩ :: rest) ⟨ρ, M⟩ :=
  mS (v := undef) (exC (fun (p : T × Value) g => φ p.1 g ∧ g dd = p.2) fun p => (R p.1).set j (.own p.2 E sz (rows ++ rows2 p.1))) (fun g w Y hw => by
    obtain ⟨t, ht1, hw⟩ := exC_open hw
    have hjl : j < (R t).length := (List.getElem?_eq_some_iff.1 (hj t)).1
    have hjl2 : j2 < (R t).length := (List.getElem?_eq_some_iff.1 (hj2 t)).1
    have hi : (R t ++ (K ++ Y))[j]? = some (.own (.slice a m cc) E sz rows) := by rw [List.getElem?_append_left hjl]; exact hj t
    have hi2 : (R t ++ (K ++ Y))[j2]? = some (.own (.slice (a2 t) m2 c2) E sz (rows2 t)) := by rw [List.getElem?_append_left hjl2]; exact hj2 t
    refine s_append hw (hx g) (hy t g ht1) hi (hw.own_rd hi2) (hl2 t) (fun u hu => (List.all_eq_true.1 (h1 t)) u hu) hb h63 fun v' w' hw' => ⟨fun hh => (by rw [hfr] at hh; cases hh), exC_mk (t, v') ⟨hφ t g _ ht1, ?_⟩ ?_⟩
    · rw [ovr_in (by simpa using hs)]; exact upd_same _ _ _
    · rw [List.set_append_left _ _ hjl] at hw'; exact hw') h hM hw0 ht rfl
/-- What an append has made is stored into a block of another cell. -/
theorem mJoinX {c0 c b ob dv j : Nat} {cs : Array Value} {E E2 sz2 : Nat} {TT : TypeId} {x : Operand} {φ : T → Fr → Prop} {R : T → List Res} {val : T → Value} {rows : T → List (List Value)} [hn : TSz P TT 1]
    (h : MSw (mV P n ops Γ K wr tc stab) Q (i + 1) rest ⟨ρ, setC (setC M c0 fun _ => []) c (exC φ fun t => .blk b (.cells (putCells cs ob [val t]) E) :: R t)⟩)
    (hv : ∀ t g, φ t (ovr (stab.getD c []) g noFr) → ev (ovr stab.flatten g ρ) (.tmp dv) = val t) (hw0 : wr.getD i [] = [c0, c] := by exact rfl) (ht : tc.getD i [] = [c0, c] := by exact rfl) (hcc : Nat.beq c0 c = false := by exact rfl) (hM2 : M c = exC φ R := by first | exact setC_self | exact ml1 | exact ml2 | exact ((setC_other (by decide)).trans setC_self) | exact ((setC_other (by decide)).trans ml2) | exact ((setC_other (by decide)).trans ((setC_other (by decide)).trans ml2)) | exact ((setC_other (by decide)).trans ((setC_other (by decide)).trans ((setC_other (by decide)).trans ml2))) | exact ((setC_other (by decide)).trans ((setC_other (by decide)).trans setC_self)) | exact rfl) (hj : ∀ t, (R t)[j]? = some (.own (val t) E2 sz2 (rows t)) := by intro t; exact rfl) (hx : ∀ g, ev (ovr stab.flatten g ρ) x = .pointer (some ⟨b, ob, none⟩) := by intro g; exact rfl)
    (hM : M c0 = (fun _ => [.blk b (.cells cs E)]) := by exact rfl) (ho : ob + 1 ≤ cs.size := by exact Nat.le_of_ble_eq_true rfl) :
    MSw (mV P n ops Γ K wr tc stab) Q i (⟨none, .store TT x (.tmp dv), ty, pos, es, none⟩ :: rest) ⟨ρ, M⟩ :=
  mS2 (v := undef) (fun _ => []) (exC φ fun t => .blk b (.cells (putCells cs ob [val t]) E) :: R t) (fun g w Y hw => by
    have hw2 : Wd Γ (exC φ R (ovr (stab.getD c []) g noFr) ++ (.blk b (.cells cs E) :: (K ++ Y))) w := hw.perm (List.perm_append_comm_assoc _ _ _)
    obtain ⟨t, ht1, hw⟩ := exC_open hw2
    have hw : Wd Γ (.blk b (.cells cs E) :: (R t ++ (K ++ Y))) w := hw.perm List.perm_middle
    have hjl : j < (R t).length := (List.getElem?_eq_some_iff.1 (hj t)).1
    obtain ⟨q1, q2, q3, e1, -, -, -⟩ := hw.own_shape (i := j + 1) (v := val t) (e := E2) (sz := sz2) (rows := rows t) (by rw [List.getElem?_cons_succ, List.getElem?_append_left hjl]; exact hj t)
    refine s_store hn.h hw (hx g) (hv t g ht1) (vs := [val t]) (by rw [e1]; rfl) rfl (fun u hu => by simp at hu; subst hu; rw [e1]; rfl) (i := 0) rfl ho fun w' hw' => ⟨fun _ => rfl, ?_⟩
    exact exC_mk (R := fun t => .blk b (.cells (putCells cs ob [val t]) E) :: R t) t ht1 hw') h hM hM2 hw0 ht hcc rfl
theorem W_mixD {id : Nat} {l : List Oper} {QQ : Exit → Fr → World → Prop} (K X0 X1 X2 : List Res) (N1 N2 : List Nat) (wr tc : List (List Nat)) (hw : Wd Γ (K ++ (X0 ++ (X1 ++ X2))) w)
    (h : MSw (mV P n l Γ K wr tc [[], N1, N2]) (fun ρ w => QQ .normal ρ w) 0 l ⟨ρ, ML [fun _ => X0, exC (T := Unit) (fun _ _ => True) (fun _ => X1), exC (T := Unit) (fun _ _ => True) (fun _ => X2)]⟩)
    (hm : P.follows .mixedOrders = true := by kernel_rfl) (hk : checkM n l wr tc [[], N1, N2] = true := by kernel_rfl) : W P n (.region id l.toArray true) QQ ρ w :=
  W_mixed K [fun _ => X0, exC (T := Unit) (fun _ _ => True) (fun _ => X1), exC (T := Unit) (fun _ _ => True) (fun _ => X2)] wr tc [[], N1, N2] (by
    show Wd Γ (K ++ (X0 ++ (exC (T := Unit) (fun _ _ => True) (fun _ => X1) (ovr N1 ρ noFr) ++ (exC (T := Unit) (fun _ _ => True) (fun _ => X2) (ovr N2 ρ noFr) ++ [])))) w
    rw [List.append_nil]
    have h1 : Wd Γ (X1 ++ (X2 ++ (K ++ X0))) w := hw.perm (by
      rw [← List.append_assoc, ← List.append_assoc X1]
      exact List.perm_append_comm)
    have h2 : Wd Γ (exC (T := Unit) (fun _ _ => True) (fun _ => X1) (ovr N1 ρ noFr) ++ (X2 ++ (K ++ X0))) w := exC_mk () trivial h1
    have h3 : Wd Γ (X2 ++ (exC (T := Unit) (fun _ _ => True) (fun _ => X1) (ovr N1 ρ noFr) ++ (K ++ X0))) w := h2.perm (List.perm_append_comm_assoc _ _ _)
    have h4 : Wd Γ (exC (T := Unit) (fun _ _ => True) (fun _ => X2) (ovr N2 ρ noFr) ++ (exC (T := Unit) (fun _ _ => True) (fun _ => X1) (ovr N1 ρ noFr) ++ (K ++ X0))) w := exC_mk () trivial h3
    have h5 : Wd Γ (exC (T := Unit) (fun _ _ => True) (fun _ => X1) (ovr N1 ρ noFr) ++ (exC (T := Unit) (fun _ _ => True) (fun _ => X2) (ovr N2 ρ noFr) ++ (K ++ X0))) w := h4.perm (List.perm_append_comm_assoc _ _ _)
    exact h5.perm (by
      rw [← List.append_assoc, ← List.append_assoc K]
      exact List.perm_append_comm)) h hm hk
theorem mEndD {N1 N2 : List Nat} {φ : T → Fr → Prop} {R : T → List Res} (h : ∀ t w g, φ t (ovr N1 g noFr) → Wd Γ (R t ++ K) w → Q (ovr [[], N1, N2].flatten g ρ) w) (hM0 : M 0 = fun _ => [] := by exact rfl) (hM : M 1 = exC φ R := by first | exact setC_self | exact ml1 | exact ml2 | exact ((setC_other (by decide)).trans setC_self) | exact ((setC_other (by decide)).trans ml2) | exact ((setC_other (by decide)).trans ((setC_other (by decide)).trans ml2)) | exact ((setC_other (by decide)).trans ((setC_other (by decide)).trans ((setC_other (by decide)).trans ml2))) | exact ((setC_other (by decide)).trans ((setC_other (by decide)).trans setC_self)) | exact rfl) : MSw (mV P n ops Γ K wr tc [[], N1, N2]) Q i [] ⟨ρ, M⟩ :=
  mEnd fun w g hw => by
    have hw1 : Wd Γ (K ++ (M 0 (ovr [] g noFr) ++ (M 1 (ovr N1 g noFr) ++ (M 2 (ovr N2 g noFr) ++ [])))) w := hw
    rw [hM0, hM, List.nil_append] at hw1
    have hw2 : Wd Γ (exC φ R (ovr N1 g noFr) ++ (K ++ (M 2 (ovr N2 g noFr) ++ []))) w := hw1.swapApp
    obtain ⟨t, ht, hw3⟩ := exC_open hw2
    exact h t w g ht (Wd.left (S := R t ++ K) (by rw [List.append_assoc]; exact hw3))
end
end Mk
end
/- Calls that read what is owned and change nothing. -/
section
open Go
namespace Mk
attribute [local irreducible] Calls
class PS (P : Program) (Γ : Gho) (S : List Res) (f : Nat) (args : List Value) (v : outParam Value) : Prop where
  h : ∀ Y w, Wd Γ (S ++ Y) w → Calls P f args.toArray w fun e w' => e = .returned v ∧ Wd Γ (S ++ Y) w'
instance (priority := low) {P : Program} {Γ : Gho} {S : List Res} {f : Nat} {args : List Value} {v : Value} [h : PG P Γ f args v] : PS P Γ S f args v := ⟨fun Y w hw => h.h (S ++ Y) w hw⟩
section
variable {P : Program} {n : Nat} {ops : List Oper} {opa : Array Oper} {Γ : Gho} {S K : List Res} {Q : Fr → World → Prop} {QQ : Exit → Fr → World → Prop} {ρ : Fr} {w : World} {rest : List Oper} {wr tc stab : List (List Nat)} {i : Nat} {M : Nat → Fr → List Res}
variable {d : Option Tmp} {ty : TypeId} {pos : String} {es : Array Edge} {v : Value} {f : Nat} {args : List Operand} {tys : Array TypeId} {vs : List Value} {j dj : Nat} {want c : Bool} {g : Option (Nat × Bool)}
theorem s_ps {Y : List Res} [FnOk P f] (hp : PS P Γ S f vs v) (ha : EvL ρ args vs) (hw : Wd Γ (S ++ Y) w) : Step P ⟨d, .call { callee := .value (.func f), args := args.toArray, argTypes := tys }, ty, pos, es, g⟩ ρ w fun u w' => u = v ∧ Wd Γ (S ++ Y) w' :=
  s_call ha.eqA ((hp.h Y w hw).mono fun _ _ ⟨h1, h2⟩ => ⟨v, h1, rfl, h2⟩)
theorem lPs [FnOk P f] (h : ∀ w', Wd Γ S w' → L P n opa QQ rest (putO ρ d v) w') (hw : Wd Γ S w := by exact hw) (ha : EvL ρ args vs := by exact byEV) (hd : okDst n d = true := by exact rfl) (hp : PS P Γ S f vs v := by infer_instance) :
    L P n opa QQ (⟨d, .call { callee := .value (.func f), args := args.toArray, argTypes := tys }, ty, pos, es, none⟩ :: rest) ρ w :=
  L_step rfl hd ((s_ps (Y := []) hp ha (by rw [List.append_nil]; exact hw)).mono fun _ w' ⟨h1, h2⟩ => by subst h1; rw [List.append_nil] at h2; exact h w' h2)
theorem lPsG [FnOk P f] (h : ∀ w', Wd Γ S w' → L P n opa QQ rest (putO ρ d (gv c v)) w') (hw : Wd Γ S w := by exact hw) (hj : (opa[j]?).bind (·.dst) = some dj := by exact rfl) (hjn : okDst n (some dj) = true := by exact rfl) (hc : GuardIs (ρ dj) want c := by exact byGC) (hd : okDst n d = true := by exact rfl) (ha : c = true → EvL ρ args vs := by intro hc; exact byEVG) (hp : PS P Γ S f vs v := by infer_instance) :
    L P n opa QQ (⟨d, .call { callee := .value (.func f), args := args.toArray, argTypes := tys }, ty, pos, es, some (j, want)⟩ :: rest) ρ w :=
  lGC hj hjn hd hc (fun hct => lPs (fun w' hw' => by have := h w' hw'; rwa [gvT hct rfl] at this) hw (ha hct) hd hp) (fun hcf => by have := h w hw; rwa [show gv c v = undef from by rw [hcf]; unfold gv; rfl] at this)
theorem qPs [FnOk P f] (h : Qw P n ops Γ S Q rest (putO ρ d v)) (ha : EvL ρ args vs := by exact byEV) (hp : PS P Γ S f vs v := by infer_instance) :
    Qw P n ops Γ S Q (⟨d, .call { callee := .value (.func f), args := args.toArray, argTypes := tys }, ty, pos, es, none⟩ :: rest) ρ :=
  Q_c rfl rfl (fun _ _ hw => s_ps hp ha hw) h
theorem qPsG [FnOk P f] (h : Qw P n ops Γ S Q rest (putO ρ d (gv c v))) (hj : (ops[j]?).bind (·.dst) = some dj := by exact rfl) (hc : GuardIs (ρ dj) want c := by exact byGC) (ha : c = true → EvL ρ args vs := by intro hc; exact byEVG) (hp : PS P Γ S f vs v := by infer_instance) :
    Qw P n ops Γ S Q (⟨d, .call { callee := .value (.func f), args := args.toArray, argTypes := tys }, ty, pos, es, some (j, want)⟩ :: rest) ρ :=
  Q_gc rfl hj hc rfl (fun ht _ _ hw => s_ps hp (ha ht) hw) h
end
end Mk
end
/- Slices made by 'make'. -/
section
open Go
namespace Mk
attribute [local irreducible] Calls
theorem made_rows {zs : List Value} {sz : Nat} (hz : zs.length = sz) (h0 : 0 < sz) : ∀ n : Nat, (madeCells zs.toArray (n * sz)).toList = (List.replicate n zs).flatten := fun n => by
  unfold madeCells
  simp only [Array.toList_map, Array.toList_range, List.size_toArray, hz]
  have hf : ∀ i : Nat, zs.toArray[i % sz]! = zs.getD (i % sz) undef := fun i => by
    have hlt : i % sz < zs.length := by rw [hz]; exact Nat.mod_lt _ h0
    rw [getElem!_pos (zs.toArray) _ (by simpa using hlt)]
    simp [List.getD_eq_getElem?_getD, List.getElem?_eq_getElem hlt]
  simp only [hf]
  induction n with
  | zero => simp
  | succ n ih =>
    rw [show (n + 1) * sz = sz + n * sz from by rw [Nat.add_mul]; omega, List.range_add, List.map_append, List.map_map, List.replicate_succ, List.flatten_cons, ← ih]
    congr 1
    · refine List.ext_getElem? fun i => ?_
      rw [List.getElem?_map]
      by_cases hi : i < sz
      · rw [List.getElem?_range hi]
        simp only [Option.map_some, Nat.mod_eq_of_lt hi]
        rw [List.getD_eq_getElem?_getD, List.getElem?_eq_getElem (by omega)]; rfl
      · rw [List.getElem?_eq_none (by simpa using hi), List.getElem?_eq_none (by omega)]; rfl
    · refine List.map_congr_left fun i _ => ?_
      simp
section
variable {P : Program} {n : Nat} {opa : Array Oper} {Γ : Gho} {S : List Res} {QQ : Exit → Fr → World → Prop} {ρ : Fr} {w : World} {rest : List Oper} {K : Value → World → Prop}
variable {d : Option Tmp} {T ty : TypeId} {pos : String} {es : Array Edge} {g : Option (Nat × Bool)} {x y : Operand}
theorem s_makeSlice {E by' len sz : Nat} {zs : List Value} [hT : TL P T E sz by' zs] (hw : Wd Γ S w) (hx : ev ρ x = .int .i64 (len : Nat)) (hy : ev ρ y = .int .i64 (len : Nat)) (hb : (by' : Int) * len ≤ 281474976710656) (h63 : (len : Int) ≤ 9223372036854775807)
    (hk : ∀ a w', Wd Γ (.own (.slice (some a) len len) E sz (List.replicate len zs) :: S) w' → K (.slice (some a) len len) w') : Step P ⟨d, .makeSlice T x y, ty, pos, es, g⟩ ρ w K := by
  obtain ⟨q, z, hq, hz, hzc⟩ := zeroOf_info hT.z
  obtain ⟨q', hq', hs, hb'⟩ := sizeBytes_info hT.s
  rw [hq] at hq'; cases hq'
  have hrun := run_make (P := P) w T E q z hT.h hq hz .i64 .i64 (len : Int) (len : Int) (by omega) (Int.le_refl _) (by rw [hb']; exact hb) h63
  rw [hzc, hs] at hrun
  have hr0 : (execOp (ev ρ) ⟨d, .makeSlice T x y, ty, pos, es, g⟩).run P w = .ok (.value (.slice (some ⟨w.heap.size, 0, none⟩) len len)) (w.alloc (.cells (madeCells zs.toArray (len * sz)) E)) := by
    simp only [execOp, hx, hy, Sem.run_bind, hrun, Result.andThen_ok, Int.toNat_natCast]
    rfl
  have hrows := made_rows hT.n.1 hT.n.2 len
  have hfin := hk ⟨w.heap.size, 0, none⟩ (w.alloc (.cells (madeCells zs.toArray (len * sz)) E)) (hw.add (bs := [w.heap.size]) ⟨rfl, rfl, rfl, (by first | exact Nat.le_refl _ | exact Nat.le_succ _), by simp⟩ (by
    unfold Res.own
    refine ⟨fun r hr => by rw [List.eq_of_mem_replicate hr]; exact hT.n.1, _, _, _, rfl, (by simp), Nat.le_refl _, by simp [maxLen]; omega, .inr ⟨w.heap.size, madeCells zs.toArray (len * sz), rfl, rfl, heap_alloc_new w _, size_madeCells _ _, ?_⟩⟩
    rw [hrows, List.take_of_length_le]
    rw [← hrows, Array.length_toList, size_madeCells]; exact Nat.le_refl _) (by simp) (by simp) fun k hk => heap_alloc_old w _ hk)
  unfold Step; rw [hr0]; exact hfin
theorem lMakeSlice {E by' len sz : Nat} {zs : List Value} [hT : TL P T E sz by' zs] (h : ∀ a w', Wd Γ (.own (.slice (some a) len len) E sz (List.replicate len zs) :: S) w' → L P n opa QQ rest (putO ρ d (.slice (some a) len len)) w')
    (hw : Wd Γ S w := by exact hw) (hx : ev ρ x = .int .i64 (len : Nat) := by exact rfl) (hy : ev ρ y = .int .i64 (len : Nat) := by exact rfl) (hb : (by' : Int) * len ≤ 281474976710656 := by omega) (h63 : (len : Int) ≤ 9223372036854775807 := by omega) (hd : okDst n d = true := by exact rfl) :
    L P n opa QQ (⟨d, .makeSlice T x y, ty, pos, es, none⟩ :: rest) ρ w := L_step rfl hd (s_makeSlice hw hx hy hb h63 h)
end
end Mk
end
/- Calls of function values in regions that own nothing, behind a guard. -/
section
open Go
namespace Mk
attribute [local irreducible] Calls
section
variable {P : Program} {n : Nat} {ops : List Oper} {Γ : Gho} {S : List Res} {Q : Fr → World → Prop} {ρ : Fr} {rest : List Oper}
variable {d : Option Tmp} {ty : TypeId} {pos : String} {es : Array Edge} {v : Value} {f t : Nat} {args : List Operand} {tys : Array TypeId} {vs : List Value} {j dj : Nat} {want c : Bool}
theorem qPgvG [FnOk P f] (hp : PG P Γ f vs v) (h : Qw P n ops Γ S Q rest (putO ρ d (gv c v))) (hj : (ops[j]?).bind (·.dst) = some dj := by exact rfl) (hc : GuardIs (ρ dj) want c := by exact byGC) (ht : c = true → ρ t = .func (.func f) #[] #[] := by intro hc; exact byOP) (ha : c = true → EvL ρ args vs := by intro hc; exact byEVG) :
    Qw P n ops Γ S Q (⟨d, .call { callee := .value (.tmp t), args := args.toArray, argTypes := tys }, ty, pos, es, some (j, want)⟩ :: rest) ρ :=
  Q_gc rfl hj hc rfl (fun hct Y w hw => s_callv (ht hct) (ha hct).eqA (by simpa using (hp.h (S ++ Y) w hw).mono fun e w' ⟨h1, h2⟩ => ⟨v, h1, rfl, h2⟩)) h
end
end Mk
end
/- The comparisons by which Normalize sorts. -/
section
open Go Mk
namespace Go.Proofs.YtnkekcippfdbgaaGreat
set_option maxHeartbeats 16000000
attribute [local irreducible] Calls
def ltC {α : Type} (c : α → α → Int) (x y : α) : Bool := decide (c x y < 0)
theorem ltC_lt3 {α β : Type} {c : β → β → Int} (h : Ord3 c) (f : α → β) : Lt3 (ltC fun x y : α => c (f x) (f y)) where
  asymm x y e := by
    have h1 : c (f x) (f y) < 0 := of_decide_eq_true e
    have h2 := h.anti (f x) (f y)
    refine decide_eq_false ?_
    show ¬ c (f y) (f x) < 0
    omega
  ntrans x y z e1 e2 := by
    have h1 : ¬ c (f y) (f x) < 0 := of_decide_eq_false e1
    have h2 : ¬ c (f z) (f y) < 0 := of_decide_eq_false e2
    refine decide_eq_false fun h3 => ?_
    have h3 : c (f z) (f x) < 0 := h3
    have r1 := h.rng (f y) (f x)
    have r2 := h.rng (f z) (f y)
    have r3 := h.rng (f z) (f x)
    have a1 := h.anti (f y) (f x)
    have a2 := h.anti (f z) (f y)
    have h3' : c (f z) (f x) = -1 := by omega
    rcases r1 with r1 | r1 | r1
    · omega
    · have e := h.eq0 r1
      rw [← e] at h3; exact h2 h3
    · have h4 : c (f x) (f y) = -1 := by omega
      have h5 := h.trans h3' h4
      omega
theorem ltC_eq {α β : Type} {c : β → β → Int} (h : Ord3 c) (f : α → β) {x y : α} (e1 : ltC (fun x y : α => c (f x) (f y)) x y = false) (e2 : ltC (fun x y : α => c (f x) (f y)) y x = false) : f x = f y := by
  have h1 : ¬ c (f x) (f y) < 0 := of_decide_eq_false e1
  have h2 : ¬ c (f y) (f x) < 0 := of_decide_eq_false e2
  have a := h.anti (f x) (f y)
  exact h.eq0 (by omega)

instance pc_isNaNs (s : ByteArray) : PC Tryz.prog 91 [.string s] (.bool false) := ⟨fun w => by
  refine calls_of_W Tryz.func91 rfl rfl ?_
  repeat (first | refine byW ?_ | (refine byV ?_; intro w hw))
  exact ⟨_, rfl, ret_b rfl (by simp), rfl⟩⟩
instance pc_isNaNu (s : Int) : PC Tryz.prog 94 [.int .u64 s] (.bool false) := ⟨fun w => by
  refine calls_of_W Tryz.func94 rfl rfl ?_
  repeat (first | refine byW ?_ | (refine byV ?_; intro w hw))
  exact ⟨_, rfl, ret_b rfl (by simp), rfl⟩⟩
instance pc_cmps (a b : ByteArray) : PC Tryz.prog 47 [.string a, .string b] (.int .i64 (cB a b)) := ⟨fun w => by
  refine calls_of_W Tryz.func47 rfl rfl ?_
  repeat (first | refine byW ?_ | (refine byV ?_; intro w hw))
  refine W_cond_false rfl ?_
  repeat (first | refine byW ?_ | (refine byV ?_; intro w hw))
  refine W_cond_false rfl ?_
  repeat (first | refine byW ?_ | (refine byV ?_; intro w hw))
  refine W_cond rfl (fun h => ?_) (fun h => ?_)
  · repeat (first | refine byW ?_ | (refine byV ?_; intro w hw))
    exact ⟨_, rfl, ret_i rfl (by simp [cB, h]), rfl⟩
  repeat (first | refine byW ?_ | (refine byV ?_; intro w hw))
  refine W_cond rfl (fun h2 => ?_) (fun h2 => ?_)
  · repeat (first | refine byW ?_ | (refine byV ?_; intro w hw))
    exact ⟨_, rfl, ret_i rfl (by simp [cB, h, h2]), rfl⟩
  · repeat (first | refine byW ?_ | (refine byV ?_; intro w hw))
    exact ⟨_, rfl, ret_i rfl (by simp [cB, h, h2]), rfl⟩⟩
instance pc_cmpi (a b : Int) : PC Tryz.prog 43 [.int .i64 a, .int .i64 b] (.int .i64 (cI a b)) := ⟨fun w => by
  refine calls_of_W Tryz.func43 rfl rfl ?_
  repeat (first | refine byW ?_ | (refine byV ?_; intro w hw))
  refine W_cond_false rfl ?_
  repeat (first | refine byW ?_ | (refine byV ?_; intro w hw))
  refine W_cond_false rfl ?_
  repeat (first | refine byW ?_ | (refine byV ?_; intro w hw))
  refine W_cond rfl (fun h => ?_) (fun h => ?_)
  · repeat (first | refine byW ?_ | (refine byV ?_; intro w hw))
    exact ⟨_, rfl, ret_i rfl (by simp at h; simp [cI, h]), rfl⟩
  repeat (first | refine byW ?_ | (refine byV ?_; intro w hw))
  refine W_cond rfl (fun h2 => ?_) (fun h2 => ?_)
  · repeat (first | refine byW ?_ | (refine byV ?_; intro w hw))
    exact ⟨_, rfl, ret_i rfl (by simp at h h2; unfold cI; rw [if_neg (by omega), if_pos h2]), rfl⟩
  · repeat (first | refine byW ?_ | (refine byV ?_; intro w hw))
    exact ⟨_, rfl, ret_i rfl (by simp at h h2; unfold cI; rw [if_neg (by omega), if_neg (by omega)]), rfl⟩⟩
instance pc_cmpu (a b : Int) : PC Tryz.prog 52 [.int .u64 a, .int .u64 b] (.int .i64 (cI a b)) := ⟨fun w => by
  refine calls_of_W Tryz.func52 rfl rfl ?_
  repeat (first | refine byW ?_ | (refine byV ?_; intro w hw))
  refine W_cond_false rfl ?_
  repeat (first | refine byW ?_ | (refine byV ?_; intro w hw))
  refine W_cond_false rfl ?_
  repeat (first | refine byW ?_ | (refine byV ?_; intro w hw))
  refine W_cond rfl (fun h => ?_) (fun h => ?_)
  · repeat (first | refine byW ?_ | (refine byV ?_; intro w hw))
    exact ⟨_, rfl, ret_i rfl (by simp at h; simp [cI, h]), rfl⟩
  repeat (first | refine byW ?_ | (refine byV ?_; intro w hw))
  refine W_cond rfl (fun h2 => ?_) (fun h2 => ?_)
  · repeat (first | refine byW ?_ | (refine byV ?_; intro w hw))
    exact ⟨_, rfl, ret_i rfl (by simp at h h2; unfold cI; rw [if_neg (by omega), if_pos h2]), rfl⟩
  · repeat (first | refine byW ?_ | (refine byV ?_; intro w hw))
    exact ⟨_, rfl, ret_i rfl (by simp at h h2; unfold cI; rw [if_neg (by omega), if_neg (by omega)]), rfl⟩⟩
def orL : List Int → Int
  | [] => 0
  | x :: l => orI x (orL l)
theorem orI_r (x : Int) : orI x 0 = x := by unfold orI; split <;> simp [*]
/-- cmp.Or. -/
theorem Or_any {Γ : Gho} {S : List Res} {w : World} {v : Value} (xs : List Int) (hw : Wd Γ S w) (hr : RdS Γ S v 1 (xs.map fun x => [.int .i64 x])) :
    Calls Tryz.prog 46 #[v] w fun e w' => e = .returned (.int .i64 (orL xs)) ∧ Wd Γ S w' := by
  obtain ⟨a, n, c, rfl, hn, hnc, hc⟩ := hr.shape
  simp only [List.length_map] at hn
  refine calls_of_W Tryz.func46 rfl rfl ?_
  repeat (first | refine byW ?_ | (refine byV ?_; intro w hw))
  refine W_loop (fun μ ρ w => ∃ (k : Nat), μ + k = n ∧ Has ρ [(3, .int .i64 0), (6, .slice a n c), (7, .int .i64 n), (8, .int .i64 k)] ∧ orL xs = orL (xs.drop k) ∧ Wd Γ S w) n ⟨0, by omega, ⟨rfl, rfl, rfl, rfl, trivial⟩, rfl, hw⟩ ?_
  clear hw
  rintro μ ρ w ⟨k, hk, hρ, ho, hw⟩
  rw [hρ.eq]
  repeat (first | refine byW ?_ | (refine byV ?_; intro w hw))
  refine W_cond rfl (fun h => ?_) (fun h => ?_)
  · have hkn : k < n := by simpa using h
    obtain ⟨x, hx⟩ := get_lt (l := xs) (k := k) (by omega)
    have hd : xs.drop k = x :: xs.drop (k + 1) := by
      obtain ⟨h1, h2⟩ := List.getElem?_eq_some_iff.1 hx
      rw [← h2]; exact (List.drop_eq_getElem_cons h1)
    rw [hd] at ho
    repeat (first | refine byW ?_ | (refine byV ?_; intro w hw))
    refine W_cond rfl (fun h2 => ?_) (fun h2 => ?_)
    · repeat (first | refine byW ?_ | (refine byV ?_; intro w hw))
      have h2 : ¬ x = 0 := by simpa using h2
      refine ⟨_, rfl, ret_i rfl ?_, hw⟩
      rw [ho]; unfold orL orI; rw [if_neg h2]
    · repeat (first | refine byW ?_ | (refine byV ?_; intro w hw))
      have h2 : x = 0 := by simpa using h2
      refine ⟨μ - 1, by omega, k + 1, by omega, ⟨rfl, rfl, rfl, rfl, trivial⟩, ?_, hw⟩
      rw [ho]; show orI x _ = _; unfold orI; rw [if_pos h2]
  · have hkn : ¬ k < n := by simpa using h
    repeat (first | refine byW ?_ | (refine byV ?_; intro w hw))
    refine ⟨_, rfl, ret_i rfl ?_, hw⟩
    rw [ho, List.drop_eq_nil_of_le (by omega)]; rfl
def cCore (x y : CoreT) : Int := cI x.ID y.ID
def cCache (x y : CacheH) : Int := orI (cI x.Level y.Level) (cB x.Name y.Name)
def cLink (x y : LinkT) : Int := orI (cI x.A y.A) (cI x.B y.B)
def cMem (x y : MemT) : Int := cI x.Base y.Base
def cDev (x y : DevT) : Int := cI x.IRQ y.IRQ
instance pg_n1 {Γ : Gho} (x y : CoreT) : PG Tryz.prog Γ 42 [.agg (enc x).toArray, .agg (enc y).toArray] (.int .i64 (cCore x y)) := ⟨fun S w hw => by
  refine calls_of_W Tryz.func42 rfl rfl ?_
  repeat (first | refine byW ?_ | (refine byV ?_; intro w hw))
  refine lBox ?_
  intro b1 w hw
  refine lBox ?_
  intro b2 w hw
  have hw : Wd Γ (.blk b2 (.cells (enc y).toArray 72) :: .blk b1 (.cells (enc x).toArray 72) :: S) w := hw
  repeat (first | refine byW ?_ | (refine byV ?_; intro w hw))
  exact ⟨_, rfl, ret_i rfl rfl, hw.drop.drop⟩⟩
instance pg_n4 {Γ : Gho} (x y : MemT) : PG Tryz.prog Γ 51 [.agg (enc x).toArray, .agg (enc y).toArray] (.int .i64 (cMem x y)) := ⟨fun S w hw => by
  refine calls_of_W Tryz.func51 rfl rfl ?_
  repeat (first | refine byW ?_ | (refine byV ?_; intro w hw))
  refine lBox ?_
  intro b1 w hw
  refine lBox ?_
  intro b2 w hw
  have hw : Wd Γ (.blk b2 (.cells (enc y).toArray 79) :: .blk b1 (.cells (enc x).toArray 79) :: S) w := hw
  repeat (first | refine byW ?_ | (refine byV ?_; intro w hw))
  exact ⟨_, rfl, ret_i rfl rfl, hw.drop.drop⟩⟩
instance pg_n5 {Γ : Gho} (x y : DevT) : PG Tryz.prog Γ 54 [.agg (enc x).toArray, .agg (enc y).toArray] (.int .i64 (cDev x y)) := ⟨fun S w hw => by
  refine calls_of_W Tryz.func54 rfl rfl ?_
  repeat (first | refine byW ?_ | (refine byV ?_; intro w hw))
  refine lBox ?_
  intro b1 w hw
  refine lBox ?_
  intro b2 w hw
  have hw : Wd Γ (.blk b2 (.cells (enc y).toArray 81) :: .blk b1 (.cells (enc x).toArray 81) :: S) w := hw
  repeat (first | refine byW ?_ | (refine byV ?_; intro w hw))
  exact ⟨_, rfl, ret_i rfl rfl, hw.drop.drop⟩⟩
instance pg_n2 {Γ : Gho} (x y : CacheH) : PG Tryz.prog Γ 45 [.agg (cC x).toArray, .agg (cC y).toArray] (.int .i64 (cCache x y)) := ⟨fun S w hw => by
  refine calls_of_W Tryz.func45 rfl rfl ?_
  repeat (first | refine byW ?_ | (refine byV ?_; intro w hw))
  refine lBox ?_
  intro b1 w hw
  refine lBox ?_
  intro b2 w hw
  have hw : Wd Γ (.blk b2 (.cells (cC y).toArray 75) :: .blk b1 (.cells (cC x).toArray 75) :: S) w := hw
  repeat (first | refine byW ?_ | (refine byV ?_; intro w hw))
  refine W_mixC [.blk b2 _, .blk b1 _] S [15] [[],[],[],[],[],[],[],[],[],[],[0],[0],[]] hw ?_
  repeat (first | refine mY ?_ | refine mP ?_ | refine mPg ?_)
  refine mStepX (v := undef) (T' := Value) (fun t g => g 15 = t) (fun t => .own t 3 1 ([cI x.Level y.Level, cB x.Name y.Name].map fun x => [.int .i64 x]) :: S) (fun t g w Y _ hw => s_buildSlice (rws := [cI x.Level y.Level, cB x.Name y.Name].map fun x => [.int .i64 x]) hw rfl rfl rfl (by simp) (by decide) fun q w' hw' => ⟨_, rfl, (fun h => by cases h), hw'⟩) ?_
  refine mCallX (φ := fun (t : Value) g => g 15 = t) (v := .int .i64 (orI (cI x.Level y.Level) (cB x.Name y.Name))) (T' := Value) (fun _ _ => True) (fun t => .own t 3 1 ([cI x.Level y.Level, cB x.Name y.Name].map fun x => [.int .i64 x]) :: S) (fun t _ => [t]) (fun t g w Y ht hw => ?_) ?_ (ha := fun t g ht => EvL.cons ht EvL.nil)
  · refine (Or_any _ hw (RdS.own (i := 0) hw rfl)).mono ?_
    rintro e w ⟨rfl, hw⟩
    refine ⟨_, rfl, t, trivial, fun _ => ?_, hw⟩
    unfold orL orL orL
    rw [orI_r]
  repeat (first | refine mY ?_ | refine mP ?_ | refine mPg ?_)
  refine mEndX fun t w g _ hw => ?_
  have hw : Wd Γ (.blk b2 (.cells (cC y).toArray 75) :: .blk b1 (.cells (cC x).toArray 75) :: S) w := hw.drop.flip
  repeat (first | refine byW ?_ | (refine byV ?_; intro w hw))
  exact ⟨_, rfl, ret_i rfl rfl, hw.drop.drop⟩⟩
instance pg_n3 {Γ : Gho} (x y : LinkT) : PG Tryz.prog Γ 49 [.agg (enc x).toArray, .agg (enc y).toArray] (.int .i64 (cLink x y)) := ⟨fun S w hw => by
  refine calls_of_W Tryz.func49 rfl rfl ?_
  repeat (first | refine byW ?_ | (refine byV ?_; intro w hw))
  refine lBox ?_
  intro b1 w hw
  refine lBox ?_
  intro b2 w hw
  have hw : Wd Γ (.blk b2 (.cells (enc y).toArray 77) :: .blk b1 (.cells (enc x).toArray 77) :: S) w := hw
  repeat (first | refine byW ?_ | (refine byV ?_; intro w hw))
  refine W_mixC [.blk b2 _, .blk b1 _] S [15] [[],[],[],[],[],[],[],[],[],[],[0],[0],[]] hw ?_
  repeat (first | refine mY ?_ | refine mP ?_ | refine mPg ?_)
  refine mStepX (v := undef) (T' := Value) (fun t g => g 15 = t) (fun t => .own t 3 1 ([cI x.A y.A, cI x.B y.B].map fun x => [.int .i64 x]) :: S) (fun t g w Y _ hw => s_buildSlice (rws := [cI x.A y.A, cI x.B y.B].map fun x => [.int .i64 x]) hw rfl rfl rfl (by simp) (by decide) fun q w' hw' => ⟨_, rfl, (fun h => by cases h), hw'⟩) ?_
  refine mCallX (φ := fun (t : Value) g => g 15 = t) (v := .int .i64 (orI (cI x.A y.A) (cI x.B y.B))) (T' := Value) (fun _ _ => True) (fun t => .own t 3 1 ([cI x.A y.A, cI x.B y.B].map fun x => [.int .i64 x]) :: S) (fun t _ => [t]) (fun t g w Y ht hw => ?_) ?_ (ha := fun t g ht => EvL.cons ht EvL.nil)
  · refine (Or_any _ hw (RdS.own (i := 0) hw rfl)).mono ?_
    rintro e w ⟨rfl, hw⟩
    refine ⟨_, rfl, t, trivial, fun _ => ?_, hw⟩
    unfold orL orL orL
    rw [orI_r]
  repeat (first | refine mY ?_ | refine mP ?_ | refine mPg ?_)
  refine mEndX fun t w g _ hw => ?_
  have hw : Wd Γ (.blk b2 (.cells (enc y).toArray 77) :: .blk b1 (.cells (enc x).toArray 77) :: S) w := hw.drop.flip
  repeat (first | refine byW ?_ | (refine byV ?_; intro w hw))
  exact ⟨_, rfl, ret_i rfl rfl, hw.drop.drop⟩⟩
end Go.Proofs.YtnkekcippfdbgaaGreat
end
/- Numbers drawn from a list. -/
section
open Go Mk
namespace Go.Proofs.YtnkekcippfdbgaaGreat
set_option maxHeartbeats 8000000
attribute [local irreducible] Calls

section
variable {P : Program} {n : Nat} {ops : List Oper} {Γ : Gho} {K : List Res} {wr tc stab : List (List Nat)} {Q : Fr → World → Prop} {i : Nat} {rest : List Oper} {ρ : Fr} {M : Nat → Fr → List Res}
/-- In a mixed region: a call that changes what lies in the cell c, and whose answer is known. -/
theorem mCallD {c f : Nat} {d : Option Tmp} {ty : TypeId} {pos : String} {es : Array Edge} {args : List Operand} {tys : Array TypeId} {vs : List Value} {v : Value} {X X' : List Res} [FnOk P f]
    (hcall : ∀ S w, Wd Γ (X ++ S) w → Calls P f vs.toArray w fun e w' => e = .returned v ∧ Wd Γ (X' ++ S) w') (h : MSw (mV P n ops Γ K wr tc stab) Q (i + 1) rest ⟨putO ρ d v, setC M c fun _ => X'⟩)
    (ht : tc.getD i [] = [c] := by exact rfl) (hM : M c = (fun _ => X) := by first | exact setC_self | exact rfl) (hw0 : wr.getD i [] = [c] := by exact rfl) (ha : ∀ g, EvL (ovr stab.flatten g ρ) args vs := by intro g; exact byEV) :
    MSw (mV P n ops Γ K wr tc stab) Q i (⟨d, .call { callee := .value (.func f), args := args.toArray, argTypes := tys }, ty, pos, es, none⟩ :: rest) ⟨ρ, M⟩ := by
  refine mM (v := v) _ (fun Y w g hw => ?_) h hw0 rfl
  rw [cells1 ht, hM] at hw
  refine s_call (ha g).eqA ((hcall _ _ hw.swapApp).mono fun e w' ⟨h1, h2⟩ => ⟨v, h1, ?_, fun _ => rfl⟩)
  rw [cells1 ht, setC_self]
  exact h2.swapApp
end

/-- The number that is drawn as number k. -/
def nx (L : List Int) (k : Nat) (n : Int) : Int := ((if L = [] then 0 else (L.getD (k % L.length) 0) % 1073741824) + 7 * ((k / max L.length 1 : Nat) : Int)) % n
theorem nx_range {L : List Int} {k : Nat} {n : Int} (h : 0 < n) : 0 ≤ nx L k n ∧ nx L k n < n := ⟨Int.emod_nonneg _ (by omega), Int.emod_lt_of_pos _ h⟩
instance : PosL 1073741824 := ⟨by decide⟩
def drwB (bs : Nat) (a : Option Addr) (m c k : Nat) : Res := .blk bs (.cells #[.slice a m c, .int .i64 k] 85)
theorem Next_any {Γ : Gho} {S : List Res} {w : World} {bs : Nat} {a : Option Addr} {m c k : Nat} {L : List Int} {n : Int} (hn0 : 0 < n) (hk : k ≤ 1000000) (hr : RepS Γ (.slice a m c) 1 (intRows L)) (hw : Wd Γ (drwB bs a m c k :: S) w) :
    Calls Tryz.prog 31 #[.pointer (some ⟨bs, 0, none⟩), .int .i64 n] w fun e w' => e = .returned (.int .i64 (nx L k n)) ∧ Wd Γ (drwB bs a m c (k + 1) :: S) w' := by
  obtain ⟨hn, hnc, hc⟩ := rep_facts hr
  simp only [intRows, List.length_map] at hn
  unfold drwB at hw
  refine calls_of_W Tryz.func31 rfl rfl ?_
  iterate 8 (first | refine byW ?_ | (refine byV ?_; intro w hw))
  obtain ⟨v0, hv0⟩ : ∃ v0 : Int, v0 = (if L = [] then 0 else (L.getD (k % L.length) 0) % 1073741824) := ⟨_, rfl⟩
  have hvb : 0 ≤ v0 ∧ v0 < 1073741824 := by
    rw [hv0]; split
    · omega
    · exact ⟨Int.emod_nonneg _ (by omega), Int.emod_lt_of_pos _ (by omega)⟩
  refine W_cut (fun ρ w => Has ρ [(0, .pointer (some ⟨bs, 0, none⟩)), (1, .int .i64 n), (5, .int .i64 v0)] ∧ Wd Γ (.blk bs (.cells #[.slice a m c, .int .i64 k] 85) :: S) w) ?_ ?_
  · repeat (first | refine byW ?_ | (refine byV ?_; intro w hw))
    refine W_cond rfl (fun h => ?_) (fun h => ?_)
    · have hm : 0 < m := by simp at h; omega
      have hkm : (k : Int).tmod m = ((k % m : Nat) : Int) := by rw [Int.tmod_eq_emod_of_nonneg (by omega)]; exact (Int.natCast_emod k m).symm
      have hlt : k % m < m := Nat.mod_lt _ hm
      obtain ⟨x, hx⟩ := get_lt (l := L) (k := k % m) (by omega)
      have hx' : L[((k % m : Nat) : Int).toNat]? = some x := hx
      have hvx : v0 = x % 1073741824 := by
        rw [hv0, if_neg (fun e => by rw [e] at hn; simp at hn; omega), ← hn, List.getD_eq_getElem?_getD, hx]; rfl
      repeat (first | refine byW ?_ | (refine byV ?_; intro w hw))
      refine W_quiet (by kernel_rfl) (by kernel_rfl) hw ?_
      iterate 13 (first | refine Q_nil ?_ | (apply Q_plain; first | (apply Q_go; first | refine qP ?_ | refine qPg ?_) | refine qY ?_) | (apply Q_guarded; first | (apply Q_go; first | refine qPG ?_ | refine qPgG ?_) | refine qG ?_))
      refine qY (v := .int .i64 ((k % m : Nat) : Int)) ?_ (hy := fun w hw => by
        rw [← hkm]; exact y_rem rfl rfl (by omega))
      repeat (first | refine Q_nil ?_ | (apply Q_plain; first | (apply Q_go; first | refine qP ?_ | refine qPg ?_) | refine qY ?_) | (apply Q_guarded; first | (apply Q_go; first | refine qPG ?_ | refine qPgG ?_) | refine qG ?_))
      clear hw
      intro w hw
      repeat (first | refine byW ?_ | (refine byV ?_; intro w hw))
      exact ⟨⟨rfl, rfl, by rw [hvx]; rfl, trivial⟩, hw⟩
    · have hm : m = 0 := by simp at h; omega
      have hL : L = [] := List.eq_nil_of_length_eq_zero (by omega)
      repeat (first | refine byW ?_ | (refine byV ?_; intro w hw))
      exact ⟨⟨rfl, rfl, by rw [hv0, if_pos hL]; rfl, trivial⟩, hw⟩
  · rintro ρ w ⟨hρ, hw⟩
    rw [hρ.eq]
    clear hρ
    have hlen : max L.length 1 = max m 1 := by rw [hn]
    have hnx : nx L k n = (v0 + 7 * ((k / max m 1 : Nat) : Int)) % n := by unfold nx; rw [← hv0, hlen]
    rw [hnx]
    clear hnx hlen
    have hM : (if (m : Int) < 1 then 1 else (m : Int)) = ((max m 1 : Nat) : Int) := by
      split <;> omega
    have hMp : 0 < max m 1 := by omega
    have hq1 : (k : Int).tdiv ((max m 1 : Nat) : Int) = ((k / max m 1 : Nat) : Int) := by rw [Int.tdiv_eq_ediv_of_nonneg (by omega)]; rfl
    have hqk : k / max m 1 ≤ k := Nat.div_le_self _ _
    generalize k / max m 1 = q at *
    generalize max m 1 = M at *
    have hw1 : IntKind.i64.wrap ((q : Nat) : Int) = ((q : Nat) : Int) := wrap_i64 (by omega) (by omega)
    refine W_seq ?_
    refine W_quiet (by kernel_rfl) (by kernel_rfl) hw ?_
    iterate 10 (first | refine Q_nil ?_ | (apply Q_plain; first | (apply Q_go; first | refine qP ?_ | refine qPg ?_) | refine qY ?_) | (apply Q_guarded; first | (apply Q_go; first | refine qPG ?_ | refine qPgG ?_) | refine qG ?_))
    refine qY (v := .int .i64 ((M : Nat) : Int)) ?_ (hy := fun w hw => by rw [← hM]; exact y_max2 rfl rfl)
    refine qY (v := .int .i64 ((q : Nat) : Int)) ?_ (hy := fun w hw => by
      rw [← hw1, ← hq1]; exact y_quo rfl rfl (by omega))
    repeat (first | refine Q_nil ?_ | (apply Q_plain; first | (apply Q_go; first | refine qP ?_ | refine qPg ?_) | refine qY ?_) | (apply Q_guarded; first | (apply Q_go; first | refine qPG ?_ | refine qPgG ?_) | refine qG ?_))
    clear hw
    intro w hw
    repeat (first | refine byW ?_ | (refine byV ?_; intro w hw))
    refine lStore ?_
    intro w hw
    have hw : Wd Γ (drwB bs a m c (k + 1) :: S) w := hw
    repeat (first | refine byW ?_ | (refine byV ?_; intro w hw))
    refine ⟨_, rfl, ret_i rfl ?_, hw⟩
    rw [Int.tmod_eq_emod_of_nonneg (by omega)]
end Go.Proofs.YtnkekcippfdbgaaGreat
end
/- Lists of IDs, and sorting by exchanges of neighbours. -/
section
open Go Mk
namespace Go.Proofs.YtnkekcippfdbgaaGreat
set_option maxHeartbeats 8000000
attribute [local irreducible] Calls

/-- An element sinks to its place by exchanges with its left neighbour. -/
def bub {α : Type} (lt : α → α → Bool) : Nat → List α → List α
  | 0, l => l
  | k + 1, l => match l[k + 1]?, l[k]? with
    | some x, some y => if lt x y = true then bub lt k ((l.set (k + 1) y).set k x) else l
    | _, _ => l
def bsFrom {α : Type} (lt : α → α → Bool) : Nat → Nat → List α → List α
  | 0, _, l => l
  | f + 1, i, l => bsFrom lt f (i + 1) (bub lt i l)
def bsort {α : Type} (lt : α → α → Bool) (l : List α) : List α := bsFrom lt (l.length - 1) 1 l
theorem bub_step {α : Type} {lt : α → α → Bool} {k : Nat} {l : List α} {x y : α} (hx : l[k + 1]? = some x) (hy : l[k]? = some y) (h : lt x y = true) : bub lt (k + 1) l = bub lt k ((l.set (k + 1) y).set k x) := by
  unfold bub; rw [hx, hy]; simp only [if_pos h]; cases k <;> rfl
theorem bub_stop {α : Type} {lt : α → α → Bool} {k : Nat} {l : List α} {x y : α} (hx : l[k + 1]? = some x) (hy : l[k]? = some y) (h : ¬ lt x y = true) : bub lt (k + 1) l = l := by
  unfold bub; rw [hx, hy]; simp only [if_neg h]
theorem bub_len {α : Type} {lt : α → α → Bool} : ∀ (k : Nat) (l : List α), (bub lt k l).length = l.length
  | 0, l => rfl
  | k + 1, l => by
    unfold bub
    split
    · split
      · rw [bub_len k]; simp
      · rfl
    · rfl
theorem bsFrom_len {α : Type} {lt : α → α → Bool} : ∀ (f i : Nat) (l : List α), (bsFrom lt f i l).length = l.length
  | 0, _, _ => rfl
  | f + 1, i, l => by show (bsFrom lt f (i + 1) (bub lt i l)).length = _; rw [bsFrom_len f, bub_len]
theorem bsort_len {α : Type} {lt : α → α → Bool} (l : List α) : (bsort lt l).length = l.length := bsFrom_len _ _ _
def ltI (a b : Int) : Bool := decide (a < b)
theorem ints_one (xs : List Int) : (intRows xs).flatten.all (·.oneCell') = true := by
  unfold intRows
  induction xs with
  | nil => rfl
  | cons x l ih => simp only [List.map_cons, List.flatten_cons, List.all_append, ih]; rfl
theorem set_rows {xs : List Int} {k : Nat} {x : Int} : (intRows xs).set k [.int .i64 x] = intRows (xs.set k x) := by unfold intRows; rw [List.map_set]
theorem SortInts_any {Γ : Gho} {S : List Res} {w : World} {v : Value} {xs : List Int} (hr : RdS Γ S v 1 (intRows xs)) (hl : xs.length ≤ 1000000) (hw : Wd Γ S w) :
    Calls Tryz.prog 32 #[v] w fun e w' => ∃ v', e = .returned v' ∧ Wd Γ (.own v' 3 1 (intRows (bsort ltI xs)) :: S) w' := by
  obtain ⟨a, n, c, rfl, hn, hnc, hc⟩ := hr.shape
  simp only [intRows, List.length_map] at hn
  refine calls_of_W Tryz.func32 rfl rfl ?_
  repeat (first | refine byW ?_ | (refine byV ?_; intro w hw))
  have hw : Wd Γ (.own (.slice none 0 0) 3 1 [] :: S) w := Wd.addNil hw
  refine lApp (i := 0) (rows2 := intRows xs) ?_ (hr.cons.rd hw) (h1 := ints_one xs) (hm := by simp [intRows]; exact hn)
  intro v' w hw
  obtain ⟨q, m, d, rfl, hm, -, -⟩ := hw.own_shape (i := 0) rfl
  simp [intRows] at hm
  have hw : Wd Γ (.own (.slice q m d) 3 1 (intRows xs) :: S) w := hw
  repeat (first | refine byW ?_ | (refine byV ?_; intro w hw))
  refine W_loop (fun μ ρ w => ∃ (i : Nat) (Y : List Int), 1 ≤ i ∧ (m ≤ i + μ) ∧ Y.length = m ∧ bsort ltI xs = bsFrom ltI (m - i) i Y ∧ Has ρ [(3, .slice q m d), (4, .int .i64 i)] ∧ Wd Γ (.own (.slice q m d) 3 1 (intRows Y) :: S) w) m ⟨1, xs, by omega, by omega, hm.symm, by unfold bsort; rw [← hm], ⟨rfl, rfl, trivial⟩, hw⟩ ?_
  clear hw
  rintro μ ρ w ⟨i, Y, hi, hμ, hY, hB, hρ, hw⟩
  rw [hρ.eq]
  repeat (first | refine byW ?_ | (refine byV ?_; intro w hw))
  refine W_cond rfl (fun h => ?_) (fun h => ?_)
  · have him : i < m := by simpa using h
    have hB2 : bsort ltI xs = bsFrom ltI (m - (i + 1)) (i + 1) (bub ltI i Y) := by
      rw [hB, show m - i = (m - (i + 1)) + 1 by omega]; rfl
    repeat (first | refine byW ?_ | (refine byV ?_; intro w hw))
    refine W_loop (fun μ2 ρ w => ∃ (k : Nat) (Z : List Int), μ2 = k ∧ k ≤ i ∧ Z.length = m ∧ bub ltI i Y = bub ltI k Z ∧ Has ρ [(3, .slice q m d), (4, .int .i64 i), (5, .int .i64 k)] ∧ Wd Γ (.own (.slice q m d) 3 1 (intRows Z) :: S) w) i ⟨i, Y, rfl, Nat.le_refl _, hY, rfl, ⟨rfl, rfl, rfl, trivial⟩, hw⟩ ?_
    clear hw
    rintro μ2 ρ w ⟨k, Z, rfl, hk, hZ, hC, hρ, hw⟩
    rw [hρ.eq]
    refine W_seq ?_
    refine W_seq ?_
    have hnr : m = (intRows Z).length := by simp [intRows]; omega
    cases μ2 with
    | zero =>
      refine W_quiet (by kernel_rfl) (by kernel_rfl) hw ?_
      iterate 3 (first | refine Q_nil ?_ | (apply Q_plain; first | (apply Q_go; first | refine qP ?_ | refine qPg ?_) | refine qY ?_) | (apply Q_guarded; first | (apply Q_go; first | refine qPG ?_ | refine qPgG ?_) | refine qG ?_))
      iterate 10 (refine qGF ?_ rfl)
      refine qY (v := .bool false) ?_ (hy := fun w hw => y_pickF rfl rfl)
      refine Q_nil ?_
      clear hw
      intro w hw
      refine W_cond rfl (fun h => by cases h) (fun _ => ?_)
      repeat (first | refine byW ?_ | (refine byV ?_; intro w hw))
      exact ⟨μ - 1, by omega, i + 1, Z, by omega, by omega, hZ, by rw [hB2, hC]; rfl, ⟨rfl, rfl, trivial⟩, hw⟩
    | succ k =>
      obtain ⟨x, hx⟩ := get_lt (l := Z) (k := k + 1) (by omega)
      obtain ⟨y, hy⟩ := get_lt (l := Z) (k := k) (by omega)
      have e1 : (((k + 1 : Nat) : Int) - 1) = (k : Int) := by omega
      have hx' : Z[((k + 1 : Nat) : Int).toNat]? = some x := hx
      have hy' : Z[(((k + 1 : Nat) : Int) - 1).toNat]? = some y := by rw [e1]; exact hy
      refine W_quiet (by kernel_rfl) (by kernel_rfl) hw ?_
      iterate 1 (first | refine Q_nil ?_ | (apply Q_plain; first | (apply Q_go; first | refine qP ?_ | refine qPg ?_) | refine qY ?_) | (apply Q_guarded; first | (apply Q_go; first | refine qPG ?_ | refine qPgG ?_) | refine qG ?_))
      refine qT (b := decide ((0 : Int) < ((k + 1 : Nat) : Int))) (decide_eq_true (by omega)) ?_
      repeat (first | refine Q_nil ?_ | (apply Q_plain; first | (apply Q_go; first | refine qP ?_ | refine qPg ?_) | refine qY ?_) | (apply Q_guarded; first | (apply Q_go; first | refine qPG ?_ | refine qPgG ?_) | refine qG ?_))
      clear hw
      intro w hw
      refine W_cond rfl (fun h2 => ?_) (fun h2 => ?_)
      · have h2 : ltI x y = true := by simpa [ltI] using h2
        rw [bub_step hx hy h2] at hC
        repeat (first | refine byW ?_ | (refine byV ?_; intro w hw))
        refine lStoreE (k := k + 1) (i := 0) ?_
        intro w hw
        have hw : Wd Γ (.own (.slice q m d) 3 1 ((intRows Z).set (k + 1) [.int .i64 y]) :: S) w := hw
        rw [set_rows] at hw
        have hnr : m = (intRows (Z.set (k + 1) y)).length := by simp [intRows]; omega
        repeat (first | refine byW ?_ | (refine byV ?_; intro w hw))
        refine lStoreE (k := k) (i := 0) ?_ (hx := by show Value.pointer _ = _; rw [show (((k + 1 : Nat) : Int) - 1).toNat = k by omega])
        intro w hw
        have hw : Wd Γ (.own (.slice q m d) 3 1 ((intRows (Z.set (k + 1) y)).set k [.int .i64 x]) :: S) w := hw
        rw [set_rows] at hw
        repeat (first | refine byW ?_ | (refine byV ?_; intro w hw))
        exact ⟨k, by omega, k, _, rfl, by omega, by simp; omega, hC, ⟨rfl, rfl, by show Value.int .i64 (((k + 1 : Nat) : Int) - 1) = _; rw [e1], trivial⟩, hw⟩
      · have h2 : ¬ ltI x y = true := by have : ltI x y = false := by simpa [ltI] using h2
                                         rw [this]; simp
        rw [bub_stop hx hy h2] at hC
        repeat (first | refine byW ?_ | (refine byV ?_; intro w hw))
        exact ⟨μ - 1, by omega, i + 1, Z, by omega, by omega, hZ, by rw [hB2, hC], ⟨rfl, rfl, trivial⟩, hw⟩
  · have him : ¬ i < m := by simpa using h
    repeat (first | refine byW ?_ | (refine byV ?_; intro w hw))
    refine ⟨_, rfl, _, rfl, ?_⟩
    rw [hB, show m - i = 0 by omega]; exact hw
theorem IDs_any {Γ : Gho} {S : List Res} {w : World} {xs : List CoreT} {nm : ByteArray} {v1 v2 v3 v4 v5 : Value} (hr : RdS Γ S v1 4 (xs.map enc)) (hl : xs.length ≤ 1000000) (hw : Wd Γ S w) :
    Calls Tryz.prog 33 #[.agg #[.string nm, v1, v2, v3, v4, v5]] w fun e w' => ∃ v', e = .returned v' ∧ Wd Γ (.own v' 3 1 (intRows (xs.map (·.ID))) :: S) w' := by
  obtain ⟨a, n, c, rfl, hn, hnc, hc⟩ := hr.shape
  have hnr := hn
  simp only [List.length_map] at hn
  refine calls_of_W Tryz.func33 rfl rfl ?_
  repeat (first | refine byW ?_ | (refine byV ?_; intro w hw))
  refine lBox ?_
  intro b1 w hw
  have hw : Wd Γ (.blk b1 (.cells #[.string nm, .slice a n c, v2, v3, v4, v5] 29) :: S) w := hw
  have hw : Wd Γ (.own (.slice none 0 0) 3 1 (intRows ((xs.take 0).map (·.ID))) :: .blk b1 (.cells #[.string nm, .slice a n c, v2, v3, v4, v5] 29) :: S) w := Wd.addNil hw
  repeat (first | refine byW ?_ | (refine byV ?_; intro w hw))
  refine W_loop (fun μ ρ w => ∃ (k : Nat) (q : Option Addr) (m d : Nat), μ + k = n ∧ Has ρ [(1, .pointer (some ⟨b1, 0, none⟩)), (3, .slice q m d), (4, .int .i64 k)] ∧ Wd Γ (.own (.slice q m d) 3 1 (intRows ((xs.take k).map (·.ID))) :: .blk b1 (.cells #[.string nm, .slice a n c, v2, v3, v4, v5] 29) :: S) w) n ⟨0, none, 0, 0, by omega, ⟨rfl, rfl, rfl, trivial⟩, hw⟩ ?_
  clear hw
  rintro μ ρ w ⟨k, q, m, d, hk, hρ, hw⟩
  have hm := own_len (i := 0) hw rfl
  simp only [intRows, List.length_map, List.length_take] at hm
  have hr1 : RdS Γ (.own (.slice q m d) 3 1 (intRows ((xs.take k).map (·.ID))) :: .blk b1 (.cells #[.string nm, .slice a n c, v2, v3, v4, v5] 29) :: S) (.slice a n c) 4 (xs.map enc) := hr.cons.cons
  rw [hρ.eq]
  repeat (first | refine byW ?_ | (refine byV ?_; intro w hw))
  refine W_cond rfl (fun h => ?_) (fun h => ?_)
  · have hkn : k < n := by simpa using h
    obtain ⟨x, hx⟩ := get_lt (l := xs) (k := k) (by omega)
    repeat (first | refine byW ?_ | (refine byV ?_; intro w hw))
    refine lBuildSlice [[.int .i64 x.ID]] ?_
    intro ab w hw
    refine lApp (i := 1) (rows2 := [[.int .i64 x.ID]]) ?_ (Wd.own_rd (i := 0) hw rfl)
    intro v' w hw
    obtain ⟨q', m', d', rfl, -, -, -⟩ := hw.own_shape (i := 1) rfl
    have hw : Wd Γ (.own (.slice q' m' d') 3 1 (intRows ((xs.take (k + 1)).map (·.ID))) :: .blk b1 (.cells #[.string nm, .slice a n c, v2, v3, v4, v5] 29) :: S) w := by
      rw [← rows_snocI (f := fun c : CoreT => c.ID) hx]; exact hw.drop
    repeat (first | refine byW ?_ | (refine byV ?_; intro w hw))
    exact ⟨μ - 1, by omega, k + 1, _, _, _, by omega, ⟨rfl, rfl, rfl, trivial⟩, hw⟩
  · have hkn : ¬ k < n := by simpa using h
    rw [List.take_of_length_le (by omega)] at hw
    repeat (first | refine byW ?_ | (refine byV ?_; intro w hw))
    exact ⟨_, rfl, _, rfl, hw.dropAt 1⟩
end Go.Proofs.YtnkekcippfdbgaaGreat
end
/- What the descriptions made of numbers are like. -/
section
open Go Mk
namespace Go.Proofs.YtnkekcippfdbgaaGreat
set_option maxHeartbeats 8000000
attribute [local irreducible] Calls

def nodeG (sh : Int) (j : Int) : Int := (5 * j + sh) % 64
def IsNodeG (nodes sh n : Int) : Prop := ∃ j : Int, 0 ≤ j ∧ j < nodes ∧ n = nodeG sh j
def CoresG (nodes sh first : Int) (l : List CoreT) : Prop := ∀ (i : Nat) (x : CoreT), l[i]? = some x → x.ID = (3 * i + first) % 32 ∧ (x.Width = 32 ∨ x.Width = 39) ∧ IsNodeG nodes sh x.Node ∧ 1 ≤ x.Speed ∧ x.Speed ≤ 4
def LinkIs (sh : Int) (l : LinkT) (p : Nat × Nat) : Prop := (l.A = nodeG sh p.1 ∧ l.B = nodeG sh p.2 ∨ l.A = nodeG sh p.2 ∧ l.B = nodeG sh p.1) ∧ 1 ≤ l.Latency ∧ l.Latency ≤ 9
def LinksG (sh : Int) (k : Nat) (l : List LinkT) : Prop := l.length ≤ 2 * k ∧ ∃ P : List (Nat × Nat), P.length = l.length ∧ P.Nodup ∧ (∀ p ∈ P, p.2 < p.1 ∧ p.1 < k) ∧ (∀ (i : Nat) (x : LinkT) (p : Nat × Nat), l[i]? = some x → P[i]? = some p → LinkIs sh x p) ∧ ∀ i, 1 ≤ i → i < k → ∃ j, (i, j) ∈ P
def ramN (i : Nat) : ByteArray := ⟨#[114, 97, 109, UInt8.ofNat (48 + i)]⟩
def devN (i : Nat) : ByteArray := ⟨#[100, 101, 118, UInt8.ofNat (48 + i)]⟩
def pairN (i : Nat) : ByteArray := ⟨#[112, 97, 105, 114, UInt8.ofNat (48 + i)]⟩
def ownN (i : Nat) : ByteArray := ⟨#[111, 119, 110, UInt8.ofNat (48 + i)]⟩
def MemsG (nodes sh : Int) (l : List MemT) : Prop := ∀ (i : Nat) (x : MemT), l[i]? = some x → x.Name = ramN i ∧ x.Base = (5 - i) * 16777216 ∧ (∃ e : Nat, 12 ≤ e ∧ e ≤ 19 ∧ x.Size = 2 ^ e) ∧ IsNodeG nodes sh x.Node ∧ 1 ≤ x.Latency ∧ x.Latency ≤ 9
def DevsG (nodes sh irq : Int) (l : List DevT) : Prop := ∀ (i : Nat) (x : DevT), l[i]? = some x → x.Name = devN i ∧ IsNodeG nodes sh x.Node ∧ x.IRQ = (7 * i + irq) % 256 ∧ x.Base = 4294967296 + i * 65536 ∧ (∃ t : Int, 1 ≤ t ∧ t ≤ 3 ∧ x.Size = 4096 * t)
def allB : ByteArray := ⟨#[97, 108, 108]⟩
def cacheG (ids : List Int) (p : Nat × Nat) : CacheT :=
  if p.1 = 3 then ⟨allB, 3, 64, 1048576, ids⟩ else if p.1 = 2 then ⟨pairN p.2, 2, 64, 65536, (ids.drop (2 * p.2)).take 2⟩ else ⟨ownN p.2, 1, 32, 4096, (ids.drop (2 * p.2)).take 1⟩
def TagsG (ids : List Int) (k : Nat) (T : List (Nat × Nat)) : Prop := T.Nodup ∧ T.length ≤ 1 + 2 * k ∧ ∀ p ∈ T, p = (3, 0) ∨ ((p.1 = 2 ∨ p.1 = 1) ∧ p.2 < k ∧ 2 * p.2 < ids.length)
def CachesG (ids : List Int) (l : List CacheT) : Prop := ∃ k T, TagsG ids k T ∧ k ≤ 4 ∧ l = T.map (cacheG ids)
structure Gen (H : HwT) (nodes sh first irq : Int) : Prop where
  nd : 1 ≤ nodes ∧ nodes ≤ 6
  sr : 0 ≤ sh ∧ sh < 64
  fi : 0 ≤ first ∧ first < 32
  iq : 0 ≤ irq ∧ irq < 256
  nm : H.Name = ⟨#[109]⟩
  nc : 1 ≤ H.Cores.length ∧ H.Cores.length ≤ 8
  co : CoresG nodes sh first H.Cores
  li : LinksG sh nodes.toNat H.Links
  nm' : H.Mems.length ≤ 4
  me : MemsG nodes sh H.Mems
  nd' : H.Devs.length ≤ 4
  de : DevsG nodes sh irq H.Devs
  ca : CachesG (bsort ltI (H.Cores.map (·.ID))) H.Caches

/-! ### one more of each -/
theorem get_snoc {α : Type} {l : List α} {y x : α} {i : Nat} (h : (l ++ [y])[i]? = some x) : l[i]? = some x ∨ (i = l.length ∧ x = y) := by
  rw [List.getElem?_append] at h
  split at h
  · exact .inl h
  · rename_i h2
    rcases Nat.eq_or_lt_of_le (Nat.not_lt.1 h2) with e | e
    · subst e; simp at h; exact .inr ⟨rfl, h.symm⟩
    · rw [List.getElem?_eq_none (by simp; omega)] at h; cases h
theorem CoresG.snoc {nodes sh first : Int} {l : List CoreT} {x : CoreT} (h : CoresG nodes sh first l) (hx : x.ID = (3 * l.length + first) % 32 ∧ (x.Width = 32 ∨ x.Width = 39) ∧ IsNodeG nodes sh x.Node ∧ 1 ≤ x.Speed ∧ x.Speed ≤ 4) : CoresG nodes sh first (l ++ [x]) := fun i y hy => by
  rcases get_snoc hy with h1 | ⟨rfl, rfl⟩
  · exact h i y h1
  · exact hx
theorem MemsG.snoc {nodes sh : Int} {l : List MemT} {x : MemT} (h : MemsG nodes sh l) (hx : x.Name = ramN l.length ∧ x.Base = (5 - l.length) * 16777216 ∧ (∃ e : Nat, 12 ≤ e ∧ e ≤ 19 ∧ x.Size = 2 ^ e) ∧ IsNodeG nodes sh x.Node ∧ 1 ≤ x.Latency ∧ x.Latency ≤ 9) : MemsG nodes sh (l ++ [x]) := fun i y hy => by
  rcases get_snoc hy with h1 | ⟨rfl, rfl⟩
  · exact h i y h1
  · exact hx
theorem DevsG.snoc {nodes sh irq : Int} {l : List DevT} {x : DevT} (h : DevsG nodes sh irq l) (hx : x.Name = devN l.length ∧ IsNodeG nodes sh x.Node ∧ x.IRQ = (7 * l.length + irq) % 256 ∧ x.Base = 4294967296 + l.length * 65536 ∧ (∃ t : Int, 1 ≤ t ∧ t ≤ 3 ∧ x.Size = 4096 * t)) : DevsG nodes sh irq (l ++ [x]) := fun i y hy => by
  rcases get_snoc hy with h1 | ⟨rfl, rfl⟩
  · exact h i y h1
  · exact hx
theorem LinksG.start {sh : Int} : LinksG sh 1 [] := ⟨by simp, [], rfl, List.nodup_nil, by simp, by simp, fun i h1 h2 => by omega⟩
theorem LinksG.one {sh : Int} {k up : Nat} {l : List LinkT} {x : LinkT} (h : LinksG sh k l) (hup : up < k) (hx : LinkIs sh x (k, up)) : LinksG sh (k + 1) (l ++ [x]) := by
  obtain ⟨h1, P, h2, h3, h4, h5, h6⟩ := h
  refine ⟨by simp; omega, P ++ [(k, up)], by simp [h2], nodup_snoc.2 ⟨h3, fun hm => by have := h4 _ hm; simp at this⟩, fun p hp => ?_, fun i y p hy hp => ?_, fun i hi hk => ?_⟩
  · rcases List.mem_append.1 hp with hp | hp
    · have := h4 p hp; omega
    · cases List.mem_singleton.1 hp; dsimp; omega
  · rcases get_snoc hy with a | ⟨a, rfl⟩
    · rcases get_snoc hp with b | ⟨b, rfl⟩
      · exact h5 i y p a b
      · have := (List.getElem?_eq_some_iff.1 a).1; omega
    · subst a
      rw [← h2] at hp
      simp at hp; subst hp; exact hx
  · by_cases e : i = k
    · subst e; exact ⟨up, by simp⟩
    · obtain ⟨j, hj⟩ := h6 i hi (by omega); exact ⟨j, List.mem_append_left _ hj⟩
theorem LinksG.two {sh : Int} {k up mo : Nat} {l : List LinkT} {x y : LinkT} (h : LinksG sh k l) (hk1 : 1 ≤ k) (hup : up < k) (hmo : mo < k) (hne : mo ≠ up) (hx : LinkIs sh x (k, up)) (hy : LinkIs sh y (k, mo)) : LinksG sh (k + 1) (l ++ [x] ++ [y]) := by
  obtain ⟨h1, P, h2, h3, h4, h5, h6⟩ := h
  have hfresh : ∀ j, (k, j) ∉ P := fun j hm => by have := h4 _ hm; simp at this
  refine ⟨by simp; omega, P ++ [(k, up)] ++ [(k, mo)], by simp [h2], nodup_snoc.2 ⟨nodup_snoc.2 ⟨h3, hfresh up⟩, fun hm => ?_⟩, fun p hp => ?_, fun i z p hz hp => ?_, fun i hi hk => ?_⟩
  · rcases List.mem_append.1 hm with hm | hm
    · exact hfresh mo hm
    · simp at hm; exact hne hm
  · rcases List.mem_append.1 hp with hp | hp
    · rcases List.mem_append.1 hp with hp | hp
      · have := h4 p hp; omega
      · cases List.mem_singleton.1 hp; dsimp; omega
    · cases List.mem_singleton.1 hp; dsimp; omega
  · rcases get_snoc hz with a | ⟨a, rfl⟩
    · have ha := (List.getElem?_eq_some_iff.1 a).1
      simp at ha
      rcases get_snoc hp with b | ⟨b, rfl⟩
      · rcases get_snoc a with a2 | ⟨a2, rfl⟩
        · rcases get_snoc b with b2 | ⟨b2, rfl⟩
          · exact h5 i z p a2 b2
          · have := (List.getElem?_eq_some_iff.1 a2).1; omega
        · subst a2
          rw [← h2] at b
          simp at b; subst b; exact hx
      · simp at b; omega
    · simp at a; subst a
      rw [← h2] at hp
      simp [List.getElem?_append] at hp; subst hp; exact hy
  · by_cases e : i = k
    · subst e; exact ⟨up, by simp⟩
    · obtain ⟨j, hj⟩ := h6 i hi (by omega); exact ⟨j, List.mem_append_left _ (List.mem_append_left _ hj)⟩
theorem TagsG.start {ids : List Int} : TagsG ids 0 [] := ⟨List.nodup_nil, by simp, by simp⟩
theorem TagsG.all {ids : List Int} : TagsG ids 0 [(3, 0)] := ⟨by simp, by simp, by simp⟩
theorem TagsG.step {ids : List Int} {k : Nat} {T : List (Nat × Nat)} (h : TagsG ids k T) (hk : 2 * k < ids.length) (b1 b2 : Bool) : TagsG ids (k + 1) (T ++ (if b1 = true then [(2, k)] else []) ++ (if b2 = true then [(1, k)] else [])) := by
  obtain ⟨h1, h2, h3⟩ := h
  have hfr : ∀ t, t ≠ 3 → (t, k) ∉ T := fun t ht hm => by
    rcases h3 _ hm with h | h
    · injection h with h4 _; exact ht h4
    · have := h.2.1; dsimp at this; omega
  have hold : ∀ p ∈ T, p = (3, 0) ∨ ((p.1 = 2 ∨ p.1 = 1) ∧ p.2 < k + 1 ∧ 2 * p.2 < ids.length) := fun p hp => by
    rcases h3 p hp with h | ⟨a, b, c⟩
    · exact .inl h
    · exact .inr ⟨a, by omega, c⟩
  cases b1 <;> cases b2 <;> simp only [if_true, if_false, List.append_nil, Bool.false_eq_true]
  · exact ⟨h1, by omega, hold⟩
  · refine ⟨nodup_snoc.2 ⟨h1, hfr 1 (by decide)⟩, by simp; omega, fun p hp => ?_⟩
    rcases List.mem_append.1 hp with hp | hp
    · exact hold p hp
    · cases List.mem_singleton.1 hp; exact .inr ⟨.inr rfl, by dsimp; omega, by dsimp; omega⟩
  · refine ⟨nodup_snoc.2 ⟨h1, hfr 2 (by decide)⟩, by simp; omega, fun p hp => ?_⟩
    rcases List.mem_append.1 hp with hp | hp
    · exact hold p hp
    · cases List.mem_singleton.1 hp; exact .inr ⟨.inl rfl, by dsimp; omega, by dsimp; omega⟩
  · refine ⟨nodup_snoc.2 ⟨nodup_snoc.2 ⟨h1, hfr 2 (by decide)⟩, fun hm => ?_⟩, by simp; omega, fun p hp => ?_⟩
    · rcases List.mem_append.1 hm with hm | hm
      · exact hfr 1 (by decide) hm
      · simp at hm
    · rcases List.mem_append.1 hp with hp | hp
      · rcases List.mem_append.1 hp with hp | hp
        · exact hold p hp
        · cases List.mem_singleton.1 hp; exact .inr ⟨.inl rfl, by dsimp; omega, by dsimp; omega⟩
      · cases List.mem_singleton.1 hp; exact .inr ⟨.inr rfl, by dsimp; omega, by dsimp; omega⟩
end Go.Proofs.YtnkekcippfdbgaaGreat
end
/- Sorting by exchanges: what comes out is sorted and has the same elements. -/
section
open Go Mk
namespace Go.Proofs.YtnkekcippfdbgaaGreat
set_option maxHeartbeats 4000000
attribute [local irreducible] Calls

theorem swap_perm {α : Type} {l : List α} {k : Nat} {x y : α} (hx : l[k + 1]? = some x) (hy : l[k]? = some y) : ((l.set (k + 1) y).set k x).Perm l := by
  induction l generalizing k with
  | nil => simp at hx
  | cons a l ih =>
    cases k with
    | zero =>
      cases l with
      | nil => simp at hx
      | cons b l =>
        simp at hx hy
        subst hx hy
        exact List.Perm.swap _ _ _
    | succ k =>
      simp only [List.getElem?_cons_succ] at hx hy
      simp only [List.set_cons_succ]
      exact List.Perm.cons _ (ih hx hy)
theorem bub_perm {α : Type} {lt : α → α → Bool} : ∀ (k : Nat) (l : List α), (bub lt k l).Perm l
  | 0, l => List.Perm.refl _
  | k + 1, l => by
    unfold bub
    split
    · rename_i x y hx hy
      split
      · exact (bub_perm k _).trans (swap_perm hx hy)
      · exact List.Perm.refl _
    · exact List.Perm.refl _
theorem bsFrom_perm {α : Type} {lt : α → α → Bool} : ∀ (f i : Nat) (l : List α), (bsFrom lt f i l).Perm l
  | 0, _, l => List.Perm.refl _
  | f + 1, i, l => (bsFrom_perm f (i + 1) _).trans (bub_perm i l)
theorem bsort_perm {α : Type} {lt : α → α → Bool} (l : List α) : (bsort lt l).Perm l := bsFrom_perm _ _ _

/-- The elements at two places are in order. -/
def leAt {α : Type} (le : α → α → Prop) (l : List α) (p q : Nat) : Prop := ∀ x y, l[p]? = some x → l[q]? = some y → le x y
structure LeLt {α : Type} (le : α → α → Prop) (lt : α → α → Bool) : Prop where
  t : ∀ {x y}, lt x y = true → le x y
  f : ∀ {x y}, lt x y = false → le y x
  tr : ∀ {x y z}, le x y → le y z → le x z
theorem bub_sorted {α : Type} {le : α → α → Prop} {lt : α → α → Bool} (hl : LeLt le lt) : ∀ (k i : Nat) (l : List α), k ≤ i → i < l.length → (∀ p q, p < q → q ≤ i → p ≠ k → q ≠ k → leAt le l p q) → (∀ q, k < q → q ≤ i → leAt le l k q) → ∀ p q, p < q → q ≤ i → leAt le (bub lt k l) p q
  | 0, i, l, hk, hi, h1, h2, p, q, hpq, hq => by
    show leAt le l p q
    by_cases e : p = 0
    · subst e; exact h2 q hpq hq
    · exact h1 p q hpq hq e (by omega)
  | k + 1, i, l, hk, hi, h1, h2, p, q, hpq, hq => by
    obtain ⟨x, hx⟩ := get_lt (l := l) (k := k + 1) (by omega)
    obtain ⟨y, hy⟩ := get_lt (l := l) (k := k) (by omega)
    by_cases hlt : lt x y = true
    · rw [bub_step hx hy hlt]
      have g0 : ∀ r, r ≠ k → r ≠ k + 1 → ((l.set (k + 1) y).set k x)[r]? = l[r]? := fun r a b => by
        rw [List.getElem?_set_ne (by omega), List.getElem?_set_ne (by omega)]
      have g1 : ((l.set (k + 1) y).set k x)[k]? = some x := by rw [List.getElem?_set_self (by simp; omega)]
      have g2 : ((l.set (k + 1) y).set k x)[k + 1]? = some y := by rw [List.getElem?_set_ne (by omega), List.getElem?_set_self (by omega)]
      refine bub_sorted hl k i _ (by omega) (by simp; omega) (fun p q hpq hq hp1 hq1 => ?_) (fun q hkq hq => ?_) p q hpq hq
      · intro u v hu hv
        by_cases e1 : q = k + 1
        · subst e1
          rw [g2] at hv; cases hv
          rw [g0 p hp1 (by omega)] at hu
          exact h1 p k (by omega) (by omega) (by omega) (by omega) u y hu hy
        · rw [g0 q hq1 e1] at hv
          by_cases e2 : p = k + 1
          · subst e2
            rw [g2] at hu; cases hu
            exact h1 k q (by omega) hq (by omega) e1 y v hy hv
          · rw [g0 p hp1 e2] at hu
            exact h1 p q hpq hq e2 e1 u v hu hv
      · intro u v hu hv
        rw [g1] at hu; cases hu
        by_cases e1 : q = k + 1
        · subst e1; rw [g2] at hv; cases hv; exact hl.t hlt
        · rw [g0 q (by omega) e1] at hv
          exact h2 q (by omega) hq x v hx hv
    · rw [bub_stop hx hy hlt]
      have hge : le y x := hl.f (by simpa using hlt)
      by_cases e1 : p = k + 1
      · subst e1; exact h2 q hpq hq
      · by_cases e2 : q = k + 1
        · subst e2
          intro u v hu hv
          rw [hx] at hv; cases hv
          by_cases e3 : p = k
          · subst e3; rw [hy] at hu; cases hu; exact hge
          · exact hl.tr (h1 p k (by omega) (by omega) e1 (by omega) u y hu hy) hge
        · exact h1 p q hpq hq e1 e2
theorem bsFrom_sorted {α : Type} {le : α → α → Prop} {lt : α → α → Bool} (hl : LeLt le lt) : ∀ (f i : Nat) (l : List α), l.length ≤ i + f → (∀ p q, p < q → q < i → leAt le l p q) → ∀ p q, p < q → leAt le (bsFrom lt f i l) p q
  | 0, i, l, hf, h, p, q, hpq => by
    intro u v hu hv
    have : q < l.length := (List.getElem?_eq_some_iff.1 hv).1
    exact h p q hpq (by omega) u v hu hv
  | f + 1, i, l, hf, h, p, q, hpq => by
    by_cases hi : i < l.length
    · refine bsFrom_sorted hl f (i + 1) (bub lt i l) (by rw [bub_len]; omega) (fun p q hpq hq => ?_) p q hpq
      exact bub_sorted hl i i l (Nat.le_refl _) hi (fun p q a b c d => h p q a (by omega)) (fun q a b => by omega) p q hpq (by omega)
    · refine bsFrom_sorted hl f (i + 1) (bub lt i l) (by rw [bub_len]; omega) (fun p q hpq hq => ?_) p q hpq
      have hb : bub lt i l = l := by
        cases i with
        | zero => rfl
        | succ i => unfold bub; rw [List.getElem?_eq_none (by omega)]
      rw [hb]
      intro u v hu hv
      have : q < l.length := (List.getElem?_eq_some_iff.1 hv).1
      exact h p q hpq (by omega) u v hu hv
theorem bsort_sorted {α : Type} {le : α → α → Prop} {lt : α → α → Bool} (hl : LeLt le lt) (l : List α) {p q : Nat} (hpq : p < q) : leAt le (bsort lt l) p q :=
  bsFrom_sorted hl _ 1 l (by omega) (fun p q a b => by omega) p q hpq
theorem leLtI : LeLt (fun a b : Int => a ≤ b) ltI := ⟨fun h => by unfold ltI at h; simp at h; omega, fun h => by unfold ltI at h; simp at h; omega, fun a b => Int.le_trans a b⟩
theorem sortI {l : List Int} : sortedP (bsort ltI l) := fun i a b ha hb => bsort_sorted leLtI l (Nat.lt_succ_self i) a b ha hb
end Go.Proofs.YtnkekcippfdbgaaGreat
end
/- The descriptions made of numbers are valid: names, counts, numbers, alignment. -/
section
open Go Mk
namespace Go.Proofs.YtnkekcippfdbgaaGreat
set_option maxHeartbeats 4000000
attribute [local irreducible] Calls

section
variable {H : HwT} {nodes sh first irq : Int}
theorem nodeG_in (sh j : Int) : 0 ≤ nodeG sh j ∧ nodeG sh j < 64 := by unfold nodeG; omega
theorem nodeG_inj {sh : Int} {i j : Int} (h0 : 0 ≤ i) (h1 : i < 6) (h2 : 0 ≤ j) (h3 : j < 6) (h : nodeG sh i = nodeG sh j) : i = j := by unfold nodeG at h; omega
theorem isNode_G (sh j : Int) : isNodeB (nodeG sh j) = true := by
  have := nodeG_in sh j
  simp [isNodeB]; omega
theorem IsNodeG.ok {n : Int} (h : IsNodeG nodes sh n) : isNodeB n = true := by obtain ⟨j, -, -, rfl⟩ := h; exact isNode_G sh j
theorem mem_get {α : Type} {l : List α} {x : α} (h : x ∈ l) : ∃ i, i < l.length ∧ l[i]? = some x := by
  obtain ⟨i, hi, he⟩ := List.getElem_of_mem h
  exact ⟨i, hi, by rw [List.getElem?_eq_getElem hi, he]⟩
theorem tags_lt {ids : List Int} {k : Nat} {T : List (Nat × Nat)} (h : TagsG ids k T) (hk : k ≤ 4) {p : Nat × Nat} (hp : p ∈ T) : p = (3, 0) ∨ ((p.1 = 2 ∨ p.1 = 1) ∧ p.2 < 4 ∧ 2 * p.2 < ids.length) := by
  rcases h.2.2 p hp with h | ⟨a, b, c⟩
  · exact .inl h
  · exact .inr ⟨a, by omega, c⟩
theorem ramN_ok {i : Nat} (h : i < 4) : nameS (ramN i) = true := by
  have : i = 0 ∨ i = 1 ∨ i = 2 ∨ i = 3 := by omega
  rcases this with rfl | rfl | rfl | rfl <;> decide +kernel
theorem devN_ok {i : Nat} (h : i < 4) : nameS (devN i) = true := by
  have : i = 0 ∨ i = 1 ∨ i = 2 ∨ i = 3 := by omega
  rcases this with rfl | rfl | rfl | rfl <;> decide +kernel
theorem pairN_ok {i : Nat} (h : i < 4) : nameS (pairN i) = true := by
  have : i = 0 ∨ i = 1 ∨ i = 2 ∨ i = 3 := by omega
  rcases this with rfl | rfl | rfl | rfl <;> decide +kernel
theorem ownN_ok {i : Nat} (h : i < 4) : nameS (ownN i) = true := by
  have : i = 0 ∨ i = 1 ∨ i = 2 ∨ i = 3 := by omega
  rcases this with rfl | rfl | rfl | rfl <;> decide +kernel
/-- The caches, one by one. -/
inductive CacheK (ids : List Int) : CacheT → Nat × Nat → Prop
  | all : CacheK ids ⟨allB, 3, 64, 1048576, ids⟩ (3, 0)
  | pair {t : Nat} : t < 4 → 2 * t < ids.length → CacheK ids ⟨pairN t, 2, 64, 65536, (ids.drop (2 * t)).take 2⟩ (2, t)
  | own {t : Nat} : t < 4 → 2 * t < ids.length → CacheK ids ⟨ownN t, 1, 32, 4096, (ids.drop (2 * t)).take 1⟩ (1, t)
theorem cacheK {ids : List Int} {k : Nat} {T : List (Nat × Nat)} (h : TagsG ids k T) (hk : k ≤ 4) {p : Nat × Nat} (hp : p ∈ T) : CacheK ids (cacheG ids p) p := by
  rcases tags_lt h hk hp with rfl | ⟨a, b, c⟩
  · exact .all
  · obtain ⟨p1, p2⟩ := p
    rcases a with rfl | rfl
    · exact .pair b c
    · exact .own b c
theorem cacheK_name {ids : List Int} {c : CacheT} {p : Nat × Nat} (h : CacheK ids c p) : nameS c.Name = true := by
  cases h with
  | all => show nameS allB = true; decide +kernel
  | pair h => exact pairN_ok h
  | own h => exact ownN_ok h
theorem cacheK_rng {ids : List Int} {c : CacheT} {p : Nat × Nat} (h : CacheK ids c p) (hi : 0 < ids.length) : cacheRB c = true := by
  have e64 : decide (bitsZ .and .i64 64 (IntKind.i64.wrap (64 - 1)) = 0) = true := by decide +kernel
  have e32 : decide (bitsZ .and .i64 32 (IntKind.i64.wrap (32 - 1)) = 0) = true := by decide +kernel
  have w64 : IntKind.u64.wrap 64 = 64 := by decide +kernel
  have w32 : IntKind.u64.wrap 32 = 32 := by decide +kernel
  cases h with
  | all => unfold cacheRB; dsimp only; rw [e64, w64]; simp; omega
  | pair h1 h2 => unfold cacheRB; dsimp only; rw [e64, w64]; simp; omega
  | own h1 h2 => unfold cacheRB; dsimp only; rw [e32, w32]; simp; omega
theorem gen_ids (g : Gen H nodes sh first irq) : (bsort ltI (H.Cores.map (·.ID))).length = H.Cores.length := by rw [bsort_len]; simp
theorem gen_names (g : Gen H nodes sh first irq) : namesB H = true := by
  have hh : headB H = true := by unfold headB; rw [g.nm]; decide +kernel
  obtain ⟨k, T, hT, hk, hc⟩ := g.ca
  unfold namesB
  rw [hh]
  simp only [Bool.true_and, Bool.and_eq_true, List.all_eq_true]
  refine ⟨⟨fun c hcm => ?_, fun x hx => ?_⟩, fun x hx => ?_⟩
  · rw [hc] at hcm
    obtain ⟨p, hp, rfl⟩ := List.mem_map.1 hcm
    exact cacheK_name (cacheK hT hk hp)
  · obtain ⟨i, hi, he⟩ := mem_get hx
    rw [(g.me i x he).1]; exact ramN_ok (by have := g.nm'; omega)
  · obtain ⟨i, hi, he⟩ := mem_get hx
    rw [(g.de i x he).1]; exact devN_ok (by have := g.nd'; omega)
theorem gen_counts (g : Gen H nodes sh first irq) : countsB H = true := by
  obtain ⟨k, T, hT, hk, hc⟩ := g.ca
  have h1 := g.nc
  have h2 := g.nm'
  have h3 := g.nd'
  have h4 := g.li.1
  have h5 := g.nd
  have h6 := hT.2.1
  have h7 : H.Caches.length = T.length := by rw [hc]; simp
  unfold countsB
  simp only [Bool.and_eq_true, decide_eq_true_eq]
  omega
theorem wrap_top {s : Int} (h0 : 0 ≤ s) (h : s ≤ 1099511627776) : IntKind.u64.wrap (1099511627776 - s) = 1099511627776 - s := by simp [IntKind.wrap, IntKind.bits, IntKind.signed]; omega
theorem pow_rng {e : Nat} (h1 : 12 ≤ e) (h2 : e ≤ 19) : (4096 : Int) ≤ 2 ^ e ∧ (2 : Int) ^ e ≤ 524288 := by
  have : e = 12 ∨ e = 13 ∨ e = 14 ∨ e = 15 ∨ e = 16 ∨ e = 17 ∨ e = 18 ∨ e = 19 := by omega
  rcases this with rfl | rfl | rfl | rfl | rfl | rfl | rfl | rfl <;> decide
theorem link_of (g : LinksG sh nodes.toNat H.Links) {i : Nat} {x : LinkT} (hx : H.Links[i]? = some x) : ∃ P : List (Nat × Nat), P.length = H.Links.length ∧ P.Nodup ∧ (∃ p, P[i]? = some p) ∧ ∀ (i : Nat) (x : LinkT), H.Links[i]? = some x → ∃ p, P[i]? = some p ∧ LinkIs sh x p ∧ p.2 < p.1 ∧ p.1 < nodes.toNat := by
  obtain ⟨-, P, h2, h3, h4, h5, -⟩ := g
  refine ⟨P, h2, h3, ?_, fun i x hx => ?_⟩
  · exact get_lt (by have := (List.getElem?_eq_some_iff.1 hx).1; omega)
  · obtain ⟨p, hp⟩ := get_lt (l := P) (k := i) (by have := (List.getElem?_eq_some_iff.1 hx).1; omega)
    exact ⟨p, hp, h5 i x p hx hp, h4 p (List.mem_of_getElem? hp)⟩
theorem gen_cores (g : Gen H nodes sh first irq) : coresRB H = true := by
  obtain ⟨k, T, hT, hk, hc⟩ := g.ca
  have hfi := g.fi
  have hnd := g.nd
  unfold coresRB
  simp only [Bool.and_eq_true, List.all_eq_true]
  refine ⟨fun x hx => ?_, fun c hcm => ?_, fun x hx => ?_⟩
  · obtain ⟨i, hi, he⟩ := mem_get hx
    obtain ⟨h1, h2, h3, h4, h5⟩ := g.co i x he
    have := h3.ok
    unfold coreRB
    rw [this]
    simp; omega
  · rw [hc] at hcm
    obtain ⟨p, hp, rfl⟩ := List.mem_map.1 hcm
    exact cacheK_rng (cacheK hT hk hp) (by rw [gen_ids g]; have := g.nc; omega)
  · obtain ⟨i, hi, he⟩ := mem_get hx
    obtain ⟨P, -, -, -, hP⟩ := link_of g.li he
    obtain ⟨p, hp, ⟨h1, h2, h3⟩, h4, h5⟩ := hP i x he
    have hne : nodeG sh p.1 ≠ nodeG sh p.2 := fun e => by
      have := nodeG_inj (by omega) (by omega) (by omega) (by omega) e
      omega
    unfold linkRB
    rcases h1 with ⟨a, b⟩ | ⟨a, b⟩
    · rw [a, b, isNode_G, isNode_G]; simp [isLatB]; exact ⟨hne, by omega⟩
    · rw [a, b, isNode_G, isNode_G]; simp [isLatB]; exact ⟨fun e => hne e.symm, by omega⟩
theorem gen_regions (g : Gen H nodes sh first irq) : regionsRB H = true := by
  have h7 := g.nm'
  have h8 := g.nd'
  unfold regionsRB
  simp only [Bool.and_eq_true, List.all_eq_true]
  refine ⟨fun x hx => ?_, fun x hx => ?_⟩
  · obtain ⟨i, hi, he⟩ := mem_get hx
    obtain ⟨h1, h2, ⟨e, e1, e2, h3⟩, h4, h5, h6⟩ := g.me i x he
    obtain ⟨p1, p2⟩ := pow_rng e1 e2
    unfold memRB inSpaceB
    rw [h4.ok, wrap_top (by omega) (by omega)]
    simp [isLatB]; omega
  · obtain ⟨i, hi, he⟩ := mem_get hx
    obtain ⟨h1, h2, h3, h4, t, t1, t2, h5⟩ := g.de i x he
    have := g.iq
    unfold devRB inSpaceB
    rw [h2.ok, wrap_top (by omega) (by omega)]
    simp; omega
theorem align_mem {i e : Nat} (hi : i < 4) (h1 : 12 ≤ e) (h2 : e ≤ 19) : (decide (bitsZ .and .u64 (2 ^ e) (IntKind.u64.wrap (2 ^ e - 1)) = 0) && decide (bitsZ .and .u64 ((5 - (i : Int)) * 16777216) (IntKind.u64.wrap (2 ^ e - 1)) = 0)) = true := by
  have a : i = 0 ∨ i = 1 ∨ i = 2 ∨ i = 3 := by omega
  have b : e = 12 ∨ e = 13 ∨ e = 14 ∨ e = 15 ∨ e = 16 ∨ e = 17 ∨ e = 18 ∨ e = 19 := by omega
  rcases a with rfl | rfl | rfl | rfl <;> rcases b with rfl | rfl | rfl | rfl | rfl | rfl | rfl | rfl <;> decide +kernel
theorem gen_align (g : Gen H nodes sh first irq) : alignRB H = true := by
  have h7 := g.nm'
  have h8 := g.nd'
  unfold alignRB
  simp only [Bool.and_eq_true, List.all_eq_true]
  refine ⟨fun x hx => ?_, fun x hx => ?_⟩
  · obtain ⟨i, hi, he⟩ := mem_get hx
    obtain ⟨h1, h2, ⟨e, e1, e2, h3⟩, -⟩ := g.me i x he
    unfold memAB
    rw [h2, h3]
    exact align_mem (by omega) e1 e2
  · obtain ⟨i, hi, he⟩ := mem_get hx
    obtain ⟨h1, h2, h3, h4, t, t1, t2, h5⟩ := g.de i x he
    unfold devAB
    rw [h4, h5, Int.tmod_eq_emod_of_nonneg (by omega), Int.tmod_eq_emod_of_nonneg (by omega)]
    simp; omega
end
end Go.Proofs.YtnkekcippfdbgaaGreat
end
/- The descriptions made of numbers are valid: nothing twice, nesting, disjoint regions, connected nodes. -/
section
open Go Mk
namespace Go.Proofs.YtnkekcippfdbgaaGreat
set_option maxHeartbeats 4000000
attribute [local irreducible] Calls

section
variable {H : HwT} {nodes sh first irq : Int}
theorem nodup_of {α : Type} : ∀ {l : List α}, (∀ (i j : Nat) (x : α), l[i]? = some x → l[j]? = some x → i = j) → l.Nodup
  | [], _ => List.nodup_nil
  | a :: l, h => List.nodup_cons.2 ⟨fun hm => by
      obtain ⟨i, hi, he⟩ := mem_get hm
      have := h 0 (i + 1) a rfl (by simpa using he)
      omega, nodup_of fun i j x hi hj => by
      have := h (i + 1) (j + 1) x (by simpa using hi) (by simpa using hj)
      omega⟩
theorem nodup_get {α : Type} : ∀ {l : List α}, l.Nodup → ∀ {i j : Nat} {x : α}, l[i]? = some x → l[j]? = some x → i = j
  | [], _, i, j, x, h, _ => by simp at h
  | a :: l, h, 0, 0, x, _, _ => rfl
  | a :: l, h, 0, j + 1, x, h1, h2 => by
    simp at h1 h2; subst h1
    exact absurd (List.mem_of_getElem? h2) (List.nodup_cons.1 h).1
  | a :: l, h, i + 1, 0, x, h1, h2 => by
    simp at h1 h2; subst h2
    exact absurd (List.mem_of_getElem? h1) (List.nodup_cons.1 h).1
  | a :: l, h, i + 1, j + 1, x, h1, h2 => by
    simp at h1 h2
    rw [nodup_get (List.nodup_cons.1 h).2 h1 h2]
theorem map_get {α β : Type} {f : α → β} {l : List α} {i : Nat} {y : β} (h : (l.map f)[i]? = some y) : ∃ x, l[i]? = some x ∧ f x = y := by
  rw [List.getElem?_map] at h
  exact Option.map_eq_some_iff.1 h
theorem ids_nodup (g : Gen H nodes sh first irq) : (H.Cores.map (·.ID)).Nodup := nodup_of fun i j x hi hj => by
  obtain ⟨a, ha, rfl⟩ := map_get hi
  obtain ⟨b, hb, he⟩ := map_get hj
  have h1 := (g.co i a ha).1
  have h2 := (g.co j b hb).1
  have := (List.getElem?_eq_some_iff.1 ha).1
  have := (List.getElem?_eq_some_iff.1 hb).1
  have := g.nc
  have := g.fi
  rw [h1, h2] at he
  omega
theorem ramN_inj {i j : Nat} (hi : i < 4) (hj : j < 4) (h : ramN i = ramN j) : i = j := by
  have a : i = 0 ∨ i = 1 ∨ i = 2 ∨ i = 3 := by omega
  have b : j = 0 ∨ j = 1 ∨ j = 2 ∨ j = 3 := by omega
  rcases a with rfl | rfl | rfl | rfl <;> rcases b with rfl | rfl | rfl | rfl <;> first | rfl | (revert h; decide +kernel)
theorem devN_inj {i j : Nat} (hi : i < 4) (hj : j < 4) (h : devN i = devN j) : i = j := by
  have a : i = 0 ∨ i = 1 ∨ i = 2 ∨ i = 3 := by omega
  have b : j = 0 ∨ j = 1 ∨ j = 2 ∨ j = 3 := by omega
  rcases a with rfl | rfl | rfl | rfl <;> rcases b with rfl | rfl | rfl | rfl <;> first | rfl | (revert h; decide +kernel)
theorem pairN_inj {i j : Nat} (hi : i < 4) (hj : j < 4) (h : pairN i = pairN j) : i = j := by
  have a : i = 0 ∨ i = 1 ∨ i = 2 ∨ i = 3 := by omega
  have b : j = 0 ∨ j = 1 ∨ j = 2 ∨ j = 3 := by omega
  rcases a with rfl | rfl | rfl | rfl <;> rcases b with rfl | rfl | rfl | rfl <;> first | rfl | (revert h; decide +kernel)
theorem ownN_inj {i j : Nat} (hi : i < 4) (hj : j < 4) (h : ownN i = ownN j) : i = j := by
  have a : i = 0 ∨ i = 1 ∨ i = 2 ∨ i = 3 := by omega
  have b : j = 0 ∨ j = 1 ∨ j = 2 ∨ j = 3 := by omega
  rcases a with rfl | rfl | rfl | rfl <;> rcases b with rfl | rfl | rfl | rfl <;> first | rfl | (revert h; decide +kernel)
theorem bytes_ne {a b : ByteArray} (h : a.data.toList.head? ≠ b.data.toList.head?) : a ≠ b := fun e => h (by rw [e])
theorem cacheK_inj {ids : List Int} {c d : CacheT} {p q : Nat × Nat} (h : CacheK ids c p) (k : CacheK ids d q) (e : c.Name = d.Name) : p = q := by
  cases h with
  | all => cases k with
    | all => rfl
    | pair => exact absurd e (bytes_ne (by show some (97 : UInt8) ≠ some 112; decide))
    | own => exact absurd e (bytes_ne (by show some (97 : UInt8) ≠ some 111; decide))
  | pair h1 => cases k with
    | all => exact absurd e (bytes_ne (by show some (112 : UInt8) ≠ some 97; decide))
    | pair h2 => rw [pairN_inj h1 h2 e]
    | own => exact absurd e (bytes_ne (by show some (112 : UInt8) ≠ some 111; decide))
  | own h1 => cases k with
    | all => exact absurd e (bytes_ne (by show some (111 : UInt8) ≠ some 97; decide))
    | pair => exact absurd e (bytes_ne (by show some (111 : UInt8) ≠ some 112; decide))
    | own h2 => rw [ownN_inj h1 h2 e]
theorem cacheK_cores {ids : List Int} {c : CacheT} {p : Nat × Nat} (h : CacheK ids c p) : c.Cores.Sublist ids := by
  cases h with
  | all => exact List.Sublist.refl _
  | pair => exact (List.take_sublist _ _).trans (List.drop_sublist _ _)
  | own => exact (List.take_sublist _ _).trans (List.drop_sublist _ _)
theorem linkKey_of {x : LinkT} {p : Nat × Nat} (h : LinkIs sh x p) : linkKey x = (min (nodeG sh p.1) (nodeG sh p.2), max (nodeG sh p.1) (nodeG sh p.2)) := by
  obtain ⟨h1, -⟩ := h
  unfold linkKey
  rcases h1 with ⟨a, b⟩ | ⟨a, b⟩
  · rw [a, b]; congr 1 <;> split <;> omega
  · rw [a, b]; congr 1 <;> split <;> omega
theorem links_nodup (g : Gen H nodes sh first irq) : (H.Links.map linkKey).Nodup := nodup_of fun i j z hi hj => by
  obtain ⟨a, ha, rfl⟩ := map_get hi
  obtain ⟨b, hb, he⟩ := map_get hj
  obtain ⟨P, hl, hn, -, hP⟩ := link_of g.li ha
  obtain ⟨p, hp, hp1, hp2, hp3⟩ := hP i a ha
  obtain ⟨q, hq, hq1, hq2, hq3⟩ := hP j b hb
  have hnd := g.nd
  rw [linkKey_of hp1, linkKey_of hq1] at he
  injection he with e1 e2
  have hpq : p = q := by
    have c : (nodeG sh p.1 = nodeG sh q.1 ∧ nodeG sh p.2 = nodeG sh q.2) ∨ (nodeG sh p.1 = nodeG sh q.2 ∧ nodeG sh p.2 = nodeG sh q.1) := by omega
    rcases c with ⟨c1, c2⟩ | ⟨c1, c2⟩
    · have d1 := nodeG_inj (by omega) (by omega) (by omega) (by omega) c1
      have d2 := nodeG_inj (by omega) (by omega) (by omega) (by omega) c2
      exact Prod.ext (by omega) (by omega)
    · have d1 := nodeG_inj (by omega) (by omega) (by omega) (by omega) c1
      have d2 := nodeG_inj (by omega) (by omega) (by omega) (by omega) c2
      omega
  subst hpq
  exact nodup_get hn hp hq
theorem gen_unique (g : Gen H nodes sh first irq) : uniqueB H = true := by
  obtain ⟨k, T, hT, hk, hc⟩ := g.ca
  have hids : (bsort ltI (H.Cores.map (·.ID))).Nodup := (bsort_perm _).nodup_iff.2 (ids_nodup g)
  unfold uniqueB
  simp only [Bool.and_eq_true, List.all_eq_true, decide_eq_true_eq]
  refine ⟨fun c hcm => ?_, ⟨⟨⟨⟨⟨ids_nodup g, ?_⟩, ?_⟩, ?_⟩, ?_⟩, links_nodup g⟩⟩
  · rw [hc] at hcm
    obtain ⟨p, hp, rfl⟩ := List.mem_map.1 hcm
    exact hids.sublist (cacheK_cores (cacheK hT hk hp))
  · rw [hc, List.map_map]
    refine nodup_of fun i j z hi hj => ?_
    obtain ⟨p, hp, rfl⟩ := map_get hi
    obtain ⟨q, hq, he⟩ := map_get hj
    have hpq := cacheK_inj (cacheK hT hk (List.mem_of_getElem? hq)) (cacheK hT hk (List.mem_of_getElem? hp)) he
    subst hpq
    exact nodup_get hT.1 hp hq
  · refine nodup_of fun i j z hi hj => ?_
    obtain ⟨a, ha, rfl⟩ := map_get hi
    obtain ⟨b, hb, he⟩ := map_get hj
    rw [(g.me i a ha).1, (g.me j b hb).1] at he
    have := (List.getElem?_eq_some_iff.1 ha).1
    have := (List.getElem?_eq_some_iff.1 hb).1
    have := g.nm'
    exact (ramN_inj (by omega) (by omega) he).symm
  · refine nodup_of fun i j z hi hj => ?_
    obtain ⟨a, ha, rfl⟩ := map_get hi
    obtain ⟨b, hb, he⟩ := map_get hj
    rw [(g.de i a ha).1, (g.de j b hb).1] at he
    have := (List.getElem?_eq_some_iff.1 ha).1
    have := (List.getElem?_eq_some_iff.1 hb).1
    have := g.nd'
    exact (devN_inj (by omega) (by omega) he).symm
  · refine nodup_of fun i j z hi hj => ?_
    obtain ⟨a, ha, rfl⟩ := map_get hi
    obtain ⟨b, hb, he⟩ := map_get hj
    have h1 := (g.de i a ha).2.2.1
    have h2 := (g.de j b hb).2.2.1
    rw [h1, h2] at he
    have := (List.getElem?_eq_some_iff.1 ha).1
    have := (List.getElem?_eq_some_iff.1 hb).1
    have := g.nd'
    have := g.iq
    omega
theorem gen_known (g : Gen H nodes sh first irq) : knownB H = true := by
  obtain ⟨k, T, hT, hk, hc⟩ := g.ca
  unfold knownB
  simp only [List.all_eq_true, List.any_eq_true, decide_eq_true_eq]
  intro c hcm id hid
  rw [hc] at hcm
  obtain ⟨p, hp, rfl⟩ := List.mem_map.1 hcm
  have h1 := (cacheK_cores (cacheK hT hk hp)).subset hid
  have h2 := (bsort_perm _).mem_iff.1 h1
  obtain ⟨x, hx, he⟩ := List.mem_map.1 h2
  exact ⟨x, hx, he⟩
theorem gen_disj (g : Gen H nodes sh first irq) : disjB H = true := decP_t fun i k a b hki ha hb => by
  have h7 := g.nm'
  have h8 := g.nd'
  have hm : ∀ (i : Nat) (x : MemT), H.Mems[i]? = some x → i < 4 ∧ (memBlk x).1 = (5 - i) * 16777216 ∧ (memBlk x).2 ≤ (5 - i) * 16777216 + 524288 ∧ (memBlk x).1 < (memBlk x).2 := fun i x hx => by
    obtain ⟨-, h2, ⟨e, e1, e2, h3⟩, -⟩ := g.me i x hx
    obtain ⟨p1, p2⟩ := pow_rng e1 e2
    have := (List.getElem?_eq_some_iff.1 hx).1
    unfold memBlk
    dsimp only
    rw [show IntKind.u64.wrap (x.Base + x.Size) = x.Base + x.Size from by simp [IntKind.wrap, IntKind.bits, IntKind.signed]; omega]
    omega
  have hd : ∀ (i : Nat) (x : DevT), H.Devs[i]? = some x → i < 4 ∧ (devBlk x).1 = 4294967296 + i * 65536 ∧ (devBlk x).2 ≤ 4294967296 + i * 65536 + 12288 ∧ (devBlk x).1 < (devBlk x).2 := fun i x hx => by
    obtain ⟨-, -, -, h2, t, t1, t2, h3⟩ := g.de i x hx
    have := (List.getElem?_eq_some_iff.1 hx).1
    unfold devBlk
    dsimp only
    rw [show IntKind.u64.wrap (x.Base + x.Size) = x.Base + x.Size from by simp [IntKind.wrap, IntKind.bits, IntKind.signed]; omega]
    omega
  have hr : ∀ (i : Nat) (a : Int × Int), (regs H)[i]? = some a → (∃ x, H.Mems[i]? = some x ∧ memBlk x = a) ∨ (∃ j x, i = H.Mems.length + j ∧ H.Devs[j]? = some x ∧ devBlk x = a) := fun i a ha => by
    unfold regs at ha
    rw [List.getElem?_append] at ha
    split at ha
    · exact .inl (map_get ha)
    · rename_i hlt
      obtain ⟨x, hx, he⟩ := map_get ha
      simp at hlt hx
      exact .inr ⟨i - H.Mems.length, x, by omega, hx, he⟩
  have key : ¬ (a.1 < b.2 ∧ b.1 < a.2) := by
    rcases hr i a ha with ⟨x, hx, rfl⟩ | ⟨j, x, hj, hx, rfl⟩ <;> rcases hr k b hb with ⟨y, hy, rfl⟩ | ⟨l, y, hl, hy, rfl⟩
    · have := hm i x hx; have := hm k y hy; omega
    · have := (List.getElem?_eq_some_iff.1 hx).1; omega
    · have := hd j x hx; have := hm k y hy; omega
    · have := hd j x hx; have := hd l y hy; omega
  unfold apartB
  simp only [Bool.not_eq_true', Bool.and_eq_false_iff, decide_eq_false_iff_not]
  omega
theorem reach_trans {ls : List LinkT} {a b c : Int} (h : Reach ls a b) (k : Reach ls b c) : Reach ls a c := by
  induction k with
  | refl => exact h
  | ab hl _ ih => exact .ab hl ih
  | ba hl _ ih => exact .ba hl ih
theorem reach_symm {ls : List LinkT} {a b : Int} (h : Reach ls a b) : Reach ls b a := by
  induction h with
  | refl => exact .refl
  | ab hl _ ih => exact reach_trans (.ba hl .refl) ih
  | ba hl _ ih => exact reach_trans (.ab hl .refl) ih
theorem gen_conn (g : Gen H nodes sh first irq) : connB H = true := by
  obtain ⟨-, P, h2, h3, h4, h5, h6⟩ := g.li
  have hnd := g.nd
  have r0 : ∀ i : Nat, i < nodes.toNat → Reach H.Links (nodeG sh 0) (nodeG sh i) := by
    intro i
    induction i using Nat.strongRecOn with
    | ind i ih =>
      intro hi
      by_cases e : i = 0
      · subst e; exact .refl
      · obtain ⟨j, hj⟩ := h6 i (by omega) hi
        have hji := (h4 _ hj).1
        dsimp at hji
        obtain ⟨n, hn, hp⟩ := mem_get hj
        obtain ⟨x, hx⟩ := get_lt (l := H.Links) (k := n) (by omega)
        have hl := h5 n x _ hx hp
        have hxm := List.mem_of_getElem? hx
        have hr := ih j hji (by omega)
        rcases hl.1 with ⟨a, b⟩ | ⟨a, b⟩
        · dsimp at a b; rw [← a]; rw [← b] at hr; exact .ba hxm hr
        · dsimp at a b; rw [← b]; rw [← a] at hr; exact .ab hxm hr
  have hu : ∀ n ∈ usedN H, IsNodeG nodes sh n := fun n hn => by
    unfold usedN at hn
    simp only [List.mem_append, List.mem_map] at hn
    rcases hn with (⟨x, hx, rfl⟩ | ⟨x, hx, rfl⟩) | ⟨x, hx, rfl⟩
    · obtain ⟨i, hi, he⟩ := mem_get hx; exact (g.co i x he).2.2.1
    · obtain ⟨i, hi, he⟩ := mem_get hx; exact (g.me i x he).2.2.2.1
    · obtain ⟨i, hi, he⟩ := mem_get hx; exact (g.de i x he).2.1
  have hr : ∀ n ∈ usedN H, Reach H.Links (nodeG sh 0) n := fun n hn => by
    obtain ⟨j, j0, j1, rfl⟩ := hu n hn
    have := r0 j.toNat (by omega)
    rwa [Int.toNat_of_nonneg j0] at this
  have hlen : 0 < (usedN H).length := by have := g.nc; simp [usedN]; omega
  obtain ⟨s0, hs0⟩ := get_lt (l := usedN H) (k := 0) hlen
  refine decP_t fun n hn => ?_
  rw [head_used hs0]
  exact reach_trans (reach_symm (hr s0 (List.mem_of_getElem? hs0))) (hr n hn)
end
end Go.Proofs.YtnkekcippfdbgaaGreat
end
/- The descriptions made of numbers are valid: nesting; and Validate says so. -/
section
open Go Mk
namespace Go.Proofs.YtnkekcippfdbgaaGreat
set_option maxHeartbeats 4000000
attribute [local irreducible] Calls

theorem memI_iff {x : Int} {l : List Int} : memI x l = true ↔ x ∈ l := by
  unfold memI
  rw [List.any_eq_true]
  exact ⟨fun ⟨y, hy, he⟩ => by rw [of_decide_eq_true he]; exact hy, fun h => ⟨x, h, decide_eq_true rfl⟩⟩
theorem shared_all {a b : List Int} (h : ∀ x ∈ a, x ∈ b) : sharedN a b = a.length := by
  unfold sharedN
  rw [List.filter_eq_self.2 fun x hx => memI_iff.2 (h x hx)]
theorem shared_none {a b : List Int} (h : ∀ x ∈ a, x ∉ b) : sharedN a b = 0 := by
  unfold sharedN
  rw [List.filter_eq_nil_iff.2 fun x hx => by rw [memI_iff]; exact h x hx]; rfl
theorem sortedP.part {l : List Int} (h : sortedP l) (a b : Nat) : sortedP ((l.drop a).take b) := fun i x y hx hy => by
  rw [List.getElem?_take] at hx hy
  split at hx
  · split at hy
    · rw [List.getElem?_drop] at hx hy
      exact h (a + i) x y hx (by rw [show a + i + 1 = a + (i + 1) by omega]; exact hy)
    · cases hy
  · cases hx
theorem part_at {l : List Int} {t m : Nat} (hm : m ≤ 2) {x : Int} (h : x ∈ (l.drop (2 * t)).take m) : ∃ j, j / 2 = t ∧ l[j]? = some x := by
  obtain ⟨i, hi, he⟩ := mem_get h
  rw [List.getElem?_take] at he
  split at he
  · rw [List.getElem?_drop] at he
    exact ⟨2 * t + i, by omega, he⟩
  · cases he
section
variable {H : HwT} {nodes sh first irq : Int}
theorem cacheK_pair {ids : List Int} (hn : ids.Nodup) {c d : CacheT} {p q : Nat × Nat} (h : CacheK ids c p) (k : CacheK ids d q) (hne : p ≠ q) (hl : ¬ d.Level < c.Level) : sharedN c.Cores d.Cores = 0 ∨ (c.Level ≠ d.Level ∧ sharedN c.Cores d.Cores = c.Cores.length) := by
  have apart : ∀ {t s m n : Nat}, t ≠ s → m ≤ 2 → n ≤ 2 → sharedN ((ids.drop (2 * t)).take m) ((ids.drop (2 * s)).take n) = 0 := fun hts hm hn2 => shared_none fun x hx hx2 => by
    obtain ⟨i, hi, hi2⟩ := part_at hm hx
    obtain ⟨j, hj, hj2⟩ := part_at hn2 hx2
    have := nodup_get hn hi2 hj2
    omega
  cases h with
  | all => cases k with
    | all => exact absurd rfl hne
    | pair => exact absurd (by dsimp only; omega) hl
    | own => exact absurd (by dsimp only; omega) hl
  | pair h1 h2 => cases k with
    | all => exact .inr ⟨by dsimp only; omega, shared_all fun x hx => List.mem_of_mem_drop (List.mem_of_mem_take hx)⟩
    | pair h3 h4 => exact .inl (apart (fun e => hne (by rw [e])) (by omega) (by omega))
    | own => exact absurd (by dsimp only; omega) hl
  | own h1 h2 => cases k with
    | all => exact .inr ⟨by dsimp only; omega, shared_all fun x hx => List.mem_of_mem_drop (List.mem_of_mem_take hx)⟩
    | @pair s h3 h4 =>
      rename_i t
      by_cases e : t = s
      · subst e
        refine .inr ⟨by dsimp only; omega, shared_all fun x hx => ?_⟩
        exact (List.take_sublist_take_left (by omega)).subset hx
      · exact .inl (apart e (by omega) (by omega))
    | own h3 h4 => exact .inl (apart (fun e => hne (by rw [e])) (by omega) (by omega))
theorem cacheK_sorted {ids : List Int} (hs : sortedP ids) {c : CacheT} {p : Nat × Nat} (h : CacheK ids c p) : sortedP c.Cores := by
  cases h with
  | all => exact hs
  | pair => exact hs.part _ _
  | own => exact hs.part _ _
theorem gen_hier (g : Gen H nodes sh first irq) : hierB H = true := by
  obtain ⟨k, T, hT, hk, hc⟩ := g.ca
  have hids : (bsort ltI (H.Cores.map (·.ID))).Nodup := (bsort_perm _).nodup_iff.2 (ids_nodup g)
  refine decP_t ⟨fun c hcm => ?_, fun i j a b ha hb => ?_⟩
  · rw [hc] at hcm
    obtain ⟨p, hp, rfl⟩ := List.mem_map.1 hcm
    exact cacheK_sorted sortI (cacheK hT hk hp)
  · rw [hc] at ha hb
    obtain ⟨p, hp, rfl⟩ := map_get ha
    obtain ⟨q, hq, rfl⟩ := map_get hb
    unfold pairB
    by_cases e : i = j
    · simp [e]
    · have hne : p ≠ q := fun h => e (by subst h; exact nodup_get hT.1 hp hq)
      by_cases hl : (cacheG (bsort ltI (H.Cores.map (·.ID))) q).Level < (cacheG (bsort ltI (H.Cores.map (·.ID))) p).Level
      · simp [hl]
      · rcases cacheK_pair hids (cacheK hT hk (List.mem_of_getElem? hp)) (cacheK hT hk (List.mem_of_getElem? hq)) hne hl with h | ⟨h1, h2⟩
        · rw [h]; simp
        · rw [h2]; simp [h1]
/-- A description made of numbers is valid. -/
theorem gen_valid (g : Gen H nodes sh first irq) : validS H = 0 := by
  simp [validS, gen_names g, gen_counts g, gen_cores g, gen_regions g, gen_align g, gen_unique g, gen_known g, gen_hier g, gen_disj g, gen_conn g]
theorem name_small {s : ByteArray} (h : nameS s = true) : s.size ≤ maxS := by
  unfold nameS at h
  simp only [Bool.and_eq_true, decide_eq_true_eq] at h
  unfold maxS
  omega
theorem names_sz {H : HwT} (h : namesB H = true) : HwSz H := by
  unfold namesB headB at h
  simp only [Bool.and_eq_true, List.all_eq_true, decide_eq_true_eq] at h
  obtain ⟨⟨⟨⟨⟨-, h0⟩, -⟩, h1⟩, h2⟩, h3⟩ := h
  exact ⟨by unfold maxS; omega, fun c hc => name_small (h1 c hc), fun c hc => name_small (h2 c hc), fun c hc => name_small (h3 c hc)⟩
theorem gen_sz (g : Gen H nodes sh first irq) : HwSz H := names_sz (gen_names g)
end
end Go.Proofs.YtnkekcippfdbgaaGreat
end
/- Copies of descriptions. -/
section
open Go Mk
namespace Go.Proofs.YtnkekcippfdbgaaGreat
set_option maxHeartbeats 8000000
attribute [local irreducible] Calls

/-- The lists are not too long for a machine. -/
structure HwLen (H : HwT) : Prop where
  c : H.Cores.length ≤ 1000000
  h : H.Caches.length ≤ 1000000
  l : H.Links.length ≤ 1000000
  m : H.Mems.length ≤ 1000000
  d : H.Devs.length ≤ 1000000
  k : ∀ x ∈ H.Caches, x.Cores.length ≤ 1000000
def ownC (c : CacheH) : Res := .own (.slice c.A c.N c.C) 3 1 (intRows c.Cores)
/-- The lists of a description, owned. -/
structure HwV where
  v1 : Value
  v2 : Value
  v3 : Value
  v4 : Value
  v5 : Value
  cs : List CacheH
def HwV.L (p : HwV) (H : HwT) : List Res := .own p.v1 72 4 (H.Cores.map enc) :: .own p.v2 75 5 (p.cs.map cC) :: .own p.v3 77 3 (H.Links.map enc) :: .own p.v4 79 5 (H.Mems.map enc) :: .own p.v5 81 5 (H.Devs.map enc) :: p.cs.map ownC
/-- A description, owned. -/
def Res.hw (u : Value) (H : HwT) : Res := Res.ex (α := {p : HwV // u = .agg #[.string H.Name, p.v1, p.v2, p.v3, p.v4, p.v5] ∧ p.cs.map CacheH.T = H.Caches}) fun p => p.1.L H
/-- A variable that holds a description, owned. -/
def Res.hwv (v : Value) (H : HwT) : Res := Res.ex (α := {q : Nat × HwV // v = .pointer (some ⟨q.1, 0, none⟩) ∧ q.2.cs.map CacheH.T = H.Caches}) fun q => .blk q.1.1 (.cells #[.string H.Name, q.1.2.v1, q.1.2.v2, q.1.2.v3, q.1.2.v4, q.1.2.v5] 29) :: q.1.2.L H
theorem freezeC {w : World} {S : List Res} : ∀ {cs : List CacheH} {Γ : Gho}, Wd Γ (cs.map ownC ++ S) w → ∃ Γ', Γ.le Γ' ∧ (∀ c ∈ cs, COk Γ' c) ∧ Wd Γ' S w
  | [], Γ, hw => ⟨Γ, Gho.le.refl _, by simp, hw⟩
  | c :: cs, Γ, hw => by
    obtain ⟨Γ1, e1, r1, hw⟩ := Wd.freeze (hw : Wd Γ (.own (.slice c.A c.N c.C) 3 1 (intRows c.Cores) :: (cs.map ownC ++ S)) w)
    obtain ⟨Γ2, e2, h2, hw⟩ := freezeC (S := S) hw
    refine ⟨Γ2, e1.trans e2, fun x hx => ?_, hw⟩
    rcases List.mem_cons.1 hx with rfl | hx
    · exact RepS.mono r1 e2
    · exact h2 x hx
theorem wd_tuck {Γ : Gho} {w : World} {a : Res} {A X R : List Res} (h : Wd Γ (a :: (A ++ (X ++ R))) w) : Wd Γ (A ++ ((X ++ [a]) ++ R)) w := h.perm (by
  rw [← List.append_assoc, List.append_assoc X, ← List.append_assoc]
  exact List.perm_middle.symm)
theorem cC_one (c : CacheH) : (cC c).all (·.oneCell') = true := rfl
theorem Copy_any {Γ : Gho} {S : List Res} {w : World} {u : Value} {H : HwT} [hh : HwR Γ u H] (hs : HwLen H) (hw : Wd Γ S w) :
    Calls Tryz.prog 34 #[u] w fun e w' => ∃ u', e = .returned u' ∧ Wd Γ (Res.hw u' H :: S) w' := by
  obtain ⟨a1, n1, c1, a2, n2, c2, a3, n3, c3, a4, n4, c4, a5, n5, c5, cs, rfl, hcs, hok, hsz, r1, r2, r3, r4, r5⟩ := hh.h
  obtain ⟨hn1, hm1, hx1⟩ := rep_facts r1
  obtain ⟨hn2, hm2, hx2⟩ := rep_facts r2
  obtain ⟨hn3, hm3, hx3⟩ := rep_facts r3
  obtain ⟨hn4, hm4, hx4⟩ := rep_facts r4
  obtain ⟨hn5, hm5, hx5⟩ := rep_facts r5
  simp only [List.length_map] at hn1 hn2 hn3 hn4 hn5
  have hcl : cs.length = H.Caches.length := by rw [← hcs]; simp
  obtain ⟨l1, l2, l3, l4, l5, l6⟩ := hs
  refine calls_of_WC Tryz.func34 rfl rfl ?_
  repeat (first | refine byW ?_ | (refine byV ?_; intro w hw))
  refine lBox ?_
  intro b1 w hw
  refine lAlloc ?_
  intro b2 w hw
  repeat (first | refine byW ?_ | (refine byV ?_; intro w hw))
  have hw : Wd Γ (.blk b2 (.cells hwZ.toArray 29) :: .blk b1 (hwC H a1 n1 c1 a2 n2 c2 a3 n3 c3 a4 n4 c4 a5 n5 c5) :: S) w := hw
  have hw := hw.ps [1]
  have hw : Wd Γ (.blk b1 (hwC H a1 n1 c1 a2 n2 c2 a3 n3 c3 a4 n4 c4 a5 n5 c5) :: .blk b2 (.cells hwZ.toArray 29) :: S) w := hw
  repeat (first | refine byW ?_ | (refine byV ?_; intro w hw))
  refine lAlloc ?_
  intro b3 w hw
  refine lStore ?_
  intro w hw
  have hw : Wd Γ (.own (.slice none 0 0) 72 4 [] :: .blk b3 (hwC H a1 n1 c1 a2 n2 c2 a3 n3 c3 a4 n4 c4 a5 n5 c5) :: .blk b1 (hwC H a1 n1 c1 a2 n2 c2 a3 n3 c3 a4 n4 c4 a5 n5 c5) :: .blk b2 (.cells hwZ.toArray 29) :: S) w := Wd.addNil hw
  repeat (first | refine byW ?_ | (refine byV ?_; intro w hw))
  refine lApp (i := 0) (rows2 := H.Cores.map enc) ?_ (r1.rd hw) (h1 := encs_one _) (hm := by simp; omega)
  intro v1 w hw
  obtain ⟨A1, N1, C1, rfl, -, -, -⟩ := hw.own_shape (i := 0) rfl
  have hw : Wd Γ (.own (.slice A1 N1 C1) 72 4 (H.Cores.map enc) :: .blk b3 (hwC H a1 n1 c1 a2 n2 c2 a3 n3 c3 a4 n4 c4 a5 n5 c5) :: .blk b1 (hwC H a1 n1 c1 a2 n2 c2 a3 n3 c3 a4 n4 c4 a5 n5 c5) :: .blk b2 (.cells hwZ.toArray 29) :: S) w := hw
  repeat (first | refine byW ?_ | (refine byV ?_; intro w hw))
  refine lStore (i := 1) ?_
  intro w hw
  have hw : Wd Γ (.own (.slice none 0 0) 77 3 [] :: .own (.slice A1 N1 C1) 72 4 (H.Cores.map enc) :: .blk b3 (hwC H A1 N1 C1 a2 n2 c2 a3 n3 c3 a4 n4 c4 a5 n5 c5) :: .blk b1 (hwC H a1 n1 c1 a2 n2 c2 a3 n3 c3 a4 n4 c4 a5 n5 c5) :: .blk b2 (.cells hwZ.toArray 29) :: S) w := Wd.addNil hw
  repeat (first | refine byW ?_ | (refine byV ?_; intro w hw))
  refine lApp (i := 0) (rows2 := H.Links.map enc) ?_ (r3.rd hw) (h1 := encs_one _) (hm := by simp; omega)
  intro v3 w hw
  obtain ⟨A3, N3, C3, rfl, -, -, -⟩ := hw.own_shape (i := 0) rfl
  have hw : Wd Γ (.own (.slice A3 N3 C3) 77 3 (H.Links.map enc) :: .own (.slice A1 N1 C1) 72 4 (H.Cores.map enc) :: .blk b3 (hwC H A1 N1 C1 a2 n2 c2 a3 n3 c3 a4 n4 c4 a5 n5 c5) :: .blk b1 (hwC H a1 n1 c1 a2 n2 c2 a3 n3 c3 a4 n4 c4 a5 n5 c5) :: .blk b2 (.cells hwZ.toArray 29) :: S) w := hw
  repeat (first | refine byW ?_ | (refine byV ?_; intro w hw))
  refine lStore (i := 2) ?_
  intro w hw
  have hw : Wd Γ (.own (.slice none 0 0) 79 5 [] :: .own (.slice A3 N3 C3) 77 3 (H.Links.map enc) :: .own (.slice A1 N1 C1) 72 4 (H.Cores.map enc) :: .blk b3 (hwC H A1 N1 C1 a2 n2 c2 A3 N3 C3 a4 n4 c4 a5 n5 c5) :: .blk b1 (hwC H a1 n1 c1 a2 n2 c2 a3 n3 c3 a4 n4 c4 a5 n5 c5) :: .blk b2 (.cells hwZ.toArray 29) :: S) w := Wd.addNil hw
  repeat (first | refine byW ?_ | (refine byV ?_; intro w hw))
  refine lApp (i := 0) (rows2 := H.Mems.map enc) ?_ (r4.rd hw) (h1 := encs_one _) (hm := by simp; omega)
  intro v4 w hw
  obtain ⟨A4, N4, C4, rfl, -, -, -⟩ := hw.own_shape (i := 0) rfl
  have hw : Wd Γ (.own (.slice A4 N4 C4) 79 5 (H.Mems.map enc) :: .own (.slice A3 N3 C3) 77 3 (H.Links.map enc) :: .own (.slice A1 N1 C1) 72 4 (H.Cores.map enc) :: .blk b3 (hwC H A1 N1 C1 a2 n2 c2 A3 N3 C3 a4 n4 c4 a5 n5 c5) :: .blk b1 (hwC H a1 n1 c1 a2 n2 c2 a3 n3 c3 a4 n4 c4 a5 n5 c5) :: .blk b2 (.cells hwZ.toArray 29) :: S) w := hw
  repeat (first | refine byW ?_ | (refine byV ?_; intro w hw))
  refine lStore (i := 3) ?_
  intro w hw
  have hw : Wd Γ (.own (.slice none 0 0) 81 5 [] :: .own (.slice A4 N4 C4) 79 5 (H.Mems.map enc) :: .own (.slice A3 N3 C3) 77 3 (H.Links.map enc) :: .own (.slice A1 N1 C1) 72 4 (H.Cores.map enc) :: .blk b3 (hwC H A1 N1 C1 a2 n2 c2 A3 N3 C3 A4 N4 C4 a5 n5 c5) :: .blk b1 (hwC H a1 n1 c1 a2 n2 c2 a3 n3 c3 a4 n4 c4 a5 n5 c5) :: .blk b2 (.cells hwZ.toArray 29) :: S) w := Wd.addNil hw
  repeat (first | refine byW ?_ | (refine byV ?_; intro w hw))
  refine lApp (i := 0) (rows2 := H.Devs.map enc) ?_ (r5.rd hw) (h1 := encs_one _) (hm := by simp; omega)
  intro v5 w hw
  obtain ⟨A5, N5, C5, rfl, -, -, -⟩ := hw.own_shape (i := 0) rfl
  have hw : Wd Γ (.own (.slice A5 N5 C5) 81 5 (H.Devs.map enc) :: .own (.slice A4 N4 C4) 79 5 (H.Mems.map enc) :: .own (.slice A3 N3 C3) 77 3 (H.Links.map enc) :: .own (.slice A1 N1 C1) 72 4 (H.Cores.map enc) :: .blk b3 (hwC H A1 N1 C1 a2 n2 c2 A3 N3 C3 A4 N4 C4 a5 n5 c5) :: .blk b1 (hwC H a1 n1 c1 a2 n2 c2 a3 n3 c3 a4 n4 c4 a5 n5 c5) :: .blk b2 (.cells hwZ.toArray 29) :: S) w := hw
  repeat (first | refine byW ?_ | (refine byV ?_; intro w hw))
  refine lStore (i := 4) ?_
  intro w hw
  repeat (first | refine byW ?_ | (refine byV ?_; intro w hw))
  refine lStore (i := 4) ?_
  intro w hw
  have hw : Wd Γ (.own (.slice A5 N5 C5) 81 5 (H.Devs.map enc) :: .own (.slice A4 N4 C4) 79 5 (H.Mems.map enc) :: .own (.slice A3 N3 C3) 77 3 (H.Links.map enc) :: .own (.slice A1 N1 C1) 72 4 (H.Cores.map enc) :: .blk b3 (hwC H A1 N1 C1 none 0 0 A3 N3 C3 A4 N4 C4 A5 N5 C5) :: .blk b1 (hwC H a1 n1 c1 a2 n2 c2 a3 n3 c3 a4 n4 c4 a5 n5 c5) :: .blk b2 (.cells hwZ.toArray 29) :: S) w := hw
  obtain ⟨R, hR⟩ : ∃ R : List Res, R = .own (.slice A1 N1 C1) 72 4 (H.Cores.map enc) :: .own (.slice A3 N3 C3) 77 3 (H.Links.map enc) :: .own (.slice A4 N4 C4) 79 5 (H.Mems.map enc) :: .own (.slice A5 N5 C5) 81 5 (H.Devs.map enc) :: S := ⟨_, rfl⟩
  have hw : Wd Γ (.own (.slice none 0 0) 75 5 ((([] : List CacheH)).map cC) :: .blk b1 (hwC H a1 n1 c1 a2 n2 c2 a3 n3 c3 a4 n4 c4 a5 n5 c5) :: .blk b2 (.cells hwZ.toArray 29) :: .blk b3 (hwC H A1 N1 C1 none 0 0 A3 N3 C3 A4 N4 C4 A5 N5 C5) :: R) w := by
    rw [hR]; exact Wd.addNil (hw.ps [1, 2, 3, 4, 6, 6])
  repeat (first | refine byW ?_ | (refine byV ?_; intro w hw))
  have hw : Wd Γ (.own (.slice none 0 0) 75 5 (([] : List CacheH).map cC) :: .blk b1 (hwC H a1 n1 c1 a2 n2 c2 a3 n3 c3 a4 n4 c4 a5 n5 c5) :: .blk b2 (.cells hwZ.toArray 29) :: .blk b3 (hwC H A1 N1 C1 none 0 0 A3 N3 C3 A4 N4 C4 A5 N5 C5) :: (([] : List CacheH).map ownC ++ R)) w := hw
  refine W_loop (fun μ ρ w => ∃ (k : Nat) (q : Option Addr) (m d : Nat) (xs : List CacheH), μ + k = n2 ∧ xs.map CacheH.T = (cs.take k).map CacheH.T ∧ Has ρ [(1, .pointer (some ⟨b1, 0, none⟩)), (2, .pointer (some ⟨b2, 0, none⟩)), (3, .pointer (some ⟨b3, 0, none⟩)), (4, .int .i64 k)] ∧ Wd Γ (.own (.slice q m d) 75 5 (xs.map cC) :: .blk b1 (hwC H a1 n1 c1 a2 n2 c2 a3 n3 c3 a4 n4 c4 a5 n5 c5) :: .blk b2 (.cells hwZ.toArray 29) :: .blk b3 (hwC H A1 N1 C1 q m d A3 N3 C3 A4 N4 C4 A5 N5 C5) :: (xs.map ownC ++ R)) w) n2 ⟨0, none, 0, 0, [], by omega, rfl, ⟨rfl, rfl, rfl, rfl, trivial⟩, hw⟩ ?_
  clear hw
  rintro μ ρ w ⟨k, q, m, d, xs, hk, hxs, hρ, hw⟩
  have hm := own_len (i := 0) hw rfl
  have hxl : xs.length = k := by have := congrArg List.length hxs; simp at this; omega
  simp only [List.length_map] at hm
  rw [hρ.eq]
  repeat (first | refine byW ?_ | (refine byV ?_; intro w hw))
  refine W_cond rfl (fun h => ?_) (fun h => ?_)
  · have hkn : k < n2 := by have := of_decide_eq_true h; omega
    obtain ⟨x, hx⟩ := get_lt (l := cs) (k := k) (by omega)
    have hcx := hok x (List.mem_of_getElem? hx)
    obtain ⟨hxn, hxm, hxc⟩ := hcx.facts
    unfold COk at hcx
    have hx6 := l6 x.T (by rw [← hcs]; exact List.mem_map.2 ⟨x, List.mem_of_getElem? hx, rfl⟩)
    have hx6 : x.Cores.length ≤ 1000000 := hx6
    repeat (first | refine byW ?_ | (refine byV ?_; intro w hw))
    refine lAlloc ?_
    intro b5 w hw
    refine lStore ?_
    intro w hw
    have hw : Wd Γ (.blk b5 (.cells (cC x).toArray 75) :: .own (.slice q m d) 75 5 (xs.map cC) :: .blk b1 (hwC H a1 n1 c1 a2 n2 c2 a3 n3 c3 a4 n4 c4 a5 n5 c5) :: .blk b2 (.cells hwZ.toArray 29) :: .blk b3 (hwC H A1 N1 C1 q m d A3 N3 C3 A4 N4 C4 A5 N5 C5) :: (xs.map ownC ++ R)) w := hw
    repeat (first | refine byW ?_ | (refine byV ?_; intro w hw))
    have hw : Wd Γ (.own (.slice none 0 0) 3 1 [] :: .blk b5 (.cells (cC x).toArray 75) :: .own (.slice q m d) 75 5 (xs.map cC) :: .blk b1 (hwC H a1 n1 c1 a2 n2 c2 a3 n3 c3 a4 n4 c4 a5 n5 c5) :: .blk b2 (.cells hwZ.toArray 29) :: .blk b3 (hwC H A1 N1 C1 q m d A3 N3 C3 A4 N4 C4 A5 N5 C5) :: (xs.map ownC ++ R)) w := Wd.addNil hw
    refine lApp (i := 0) (rows2 := intRows x.Cores) ?_ (hcx.rd hw) (h1 := ints_one _) (hm := by simp [intRows]; omega)
    intro v9 w hw
    obtain ⟨Q, M, D, rfl, -, -, -⟩ := hw.own_shape (i := 0) rfl
    obtain ⟨y, hy⟩ : ∃ y : CacheH, y = ⟨x.Name, x.Level, x.Line, x.Size, Q, M, D, x.Cores⟩ := ⟨_, rfl⟩
    have hyT : y.T = x.T := by rw [hy]; rfl
    have hw : Wd Γ (ownC y :: .blk b5 (.cells (cC x).toArray 75) :: .own (.slice q m d) 75 5 (xs.map cC) :: .blk b1 (hwC H a1 n1 c1 a2 n2 c2 a3 n3 c3 a4 n4 c4 a5 n5 c5) :: .blk b2 (.cells hwZ.toArray 29) :: .blk b3 (hwC H A1 N1 C1 q m d A3 N3 C3 A4 N4 C4 A5 N5 C5) :: (xs.map ownC ++ R)) w := by rw [hy]; exact hw
    repeat (first | refine byW ?_ | (refine byV ?_; intro w hw))
    refine lStore (i := 1) ?_
    intro w hw
    have hw : Wd Γ (ownC y :: .blk b5 (.cells (cC y).toArray 75) :: .own (.slice q m d) 75 5 (xs.map cC) :: .blk b1 (hwC H a1 n1 c1 a2 n2 c2 a3 n3 c3 a4 n4 c4 a5 n5 c5) :: .blk b2 (.cells hwZ.toArray 29) :: .blk b3 (hwC H A1 N1 C1 q m d A3 N3 C3 A4 N4 C4 A5 N5 C5) :: (xs.map ownC ++ R)) w := by rw [hy] at hw ⊢; exact hw
    repeat (first | refine byW ?_ | (refine byV ?_; intro w hw))
    refine lBuildSlice [cC y] ?_
    intro ab w hw
    refine lApp (i := 3) (rows2 := [cC y]) ?_ (Wd.own_rd (i := 0) hw rfl)
    intro v' w hw
    obtain ⟨q', m', d', rfl, -, -, -⟩ := hw.own_shape (i := 3) rfl
    repeat (first | refine byW ?_ | (refine byV ?_; intro w hw))
    have hw := (hw.drop).dropAt 1
    have hw : Wd Γ (ownC y :: .own (.slice q' m' d') 75 5 (xs.map cC ++ [cC y]) :: .blk b1 (hwC H a1 n1 c1 a2 n2 c2 a3 n3 c3 a4 n4 c4 a5 n5 c5) :: .blk b2 (.cells hwZ.toArray 29) :: .blk b3 (hwC H A1 N1 C1 q m d A3 N3 C3 A4 N4 C4 A5 N5 C5) :: (xs.map ownC ++ R)) w := hw
    refine lStore (i := 4) ?_
    intro w hw
    have hw : Wd Γ (.own (.slice q' m' d') 75 5 ((xs ++ [y]).map cC) :: .blk b1 (hwC H a1 n1 c1 a2 n2 c2 a3 n3 c3 a4 n4 c4 a5 n5 c5) :: .blk b2 (.cells hwZ.toArray 29) :: .blk b3 (hwC H A1 N1 C1 q' m' d' A3 N3 C3 A4 N4 C4 A5 N5 C5) :: ((xs ++ [y]).map ownC ++ R)) w := by
      rw [List.map_append, List.map_append]
      exact wd_tuck (A := [.own (.slice q' m' d') 75 5 (xs.map cC ++ [cC y]), .blk b1 _, .blk b2 _, .blk b3 _]) hw
    repeat (first | refine byW ?_ | (refine byV ?_; intro w hw))
    refine ⟨μ - 1, by omega, k + 1, _, _, _, _, by omega, ?_, ⟨rfl, rfl, rfl, rfl, trivial⟩, hw⟩
    rw [List.map_append, hxs, take_succ_of hx, List.map_append]; simp [hyT]
  · have hkn : ¬ k < n2 := by have := of_decide_eq_false h; omega
    rw [List.take_of_length_le (by omega), hcs] at hxs
    repeat (first | refine byW ?_ | (refine byV ?_; intro w hw))
    refine lStore (i := 2) ?_
    intro w hw
    have hw : Wd Γ (.own (.slice q m d) 75 5 (xs.map cC) :: .blk b1 (hwC H a1 n1 c1 a2 n2 c2 a3 n3 c3 a4 n4 c4 a5 n5 c5) :: .blk b2 (hwC H A1 N1 C1 q m d A3 N3 C3 A4 N4 C4 A5 N5 C5) :: .blk b3 (hwC H A1 N1 C1 q m d A3 N3 C3 A4 N4 C4 A5 N5 C5) :: (xs.map ownC ++ R)) w := hw
    repeat (first | refine byW ?_ | (refine byV ?_; intro w hw))
    refine ⟨[.agg #[.string H.Name, .slice A1 N1 C1, .slice q m d, .slice A3 N3 C3, .slice A4 N4 C4, .slice A5 N5 C5]], ⟨resC (i := 2) hw rfl rfl rfl, trivial⟩, _, rfl, ?_⟩
    have hw := hw.ds [1, 1, 1]
    rw [hR] at hw
    refine Wd.closeEx (X := fun p : {p : HwV // Value.agg #[.string H.Name, .slice A1 N1 C1, .slice q m d, .slice A3 N3 C3, .slice A4 N4 C4, .slice A5 N5 C5] = .agg #[.string H.Name, p.v1, p.v2, p.v3, p.v4, p.v5] ∧ p.cs.map CacheH.T = H.Caches} => p.1.L H) ⟨⟨.slice A1 N1 C1, .slice q m d, .slice A3 N3 C3, .slice A4 N4 C4, .slice A5 N5 C5, xs⟩, rfl, hxs⟩ ?_
    have hw : Wd Γ ((.own (.slice q m d) 75 5 (xs.map cC) :: xs.map ownC) ++ ([.own (.slice A1 N1 C1) 72 4 (H.Cores.map enc), .own (.slice A3 N3 C3) 77 3 (H.Links.map enc), .own (.slice A4 N4 C4) 79 5 (H.Mems.map enc), .own (.slice A5 N5 C5) 81 5 (H.Devs.map enc)] ++ S)) w := hw
    exact hw.swapApp.ps [4, 1]
end Go.Proofs.YtnkekcippfdbgaaGreat
end
/- Copies of descriptions in a mixed region. -/
section
open Go Mk
namespace Go.Proofs.YtnkekcippfdbgaaGreat
set_option maxHeartbeats 8000000
attribute [local irreducible] Calls

section
variable {n : Nat} {ops : List Oper} {Γ : Gho} {K : List Res} {wr tc stab : List (List Nat)} {Q : Fr → World → Prop} {i : Nat} {rest : List Oper} {ρ : Fr} {M : Nat → Fr → List Res} {ty : TypeId} {pos : String} {es : Array Edge}
theorem mCopy {c dd : Nat} {args : List Operand} {tys : Array TypeId} {u : Value} {H : HwT} [hh : HwR Γ u H] (hl : HwLen H) (h : MSw (mV Tryz.prog n ops Γ K wr tc stab) Q (i + 1) rest ⟨putO ρ (some dd) undef, setC M c fun g => [Res.hw (g dd) H]⟩)
    (ht : tc.getD i [] = [c] := by exact rfl) (hM : M c = (fun _ => []) := by exact rfl) (hs : (stab.getD c []).contains dd = true := by exact rfl) (hfr : freeD stab (some dd) = true := by exact rfl) (hw0 : wr.getD i [] = [c] := by exact rfl) (ha : ∀ g, EvL (ovr stab.flatten g ρ) args [u] := by intro g; exact byEV) :
    MSw (mV Tryz.prog n ops Γ K wr tc stab) Q i (⟨some dd, .call { callee := .value (.func 34), args := args.toArray, argTypes := tys }, ty, pos, es, none⟩ :: rest) ⟨ρ, M⟩ := by
  refine mM (v := undef) _ (fun Y w g hw => ?_) h hw0 rfl
  rw [cells1 ht, hM] at hw
  refine s_call (ha g).eqA ((Copy_any hl hw).mono fun e w' ⟨u', h1, h2⟩ => ⟨u', h1, ?_, fun hh => by rw [hfr] at hh; cases hh⟩)
  rw [cells1 ht, setC_self]
  have h3 : ovr (stab.getD c []) (putO g (some dd) u') noFr dd = u' := by
    rw [ovr_in (by simpa using hs)]; exact upd_same _ _ _
  rw [h3]
  exact Wd.unmid h2
theorem mStoHw {cA cE da du : Nat} {H : HwT} (h : MSw (mV Tryz.prog n ops Γ K wr tc stab) Q (i + 1) rest ⟨ρ, setC (setC M cA fun _ => []) cE fun g => [Res.hwv (g da) H]⟩)
    (ht : tc.getD i [] = [cA, cE] := by exact rfl) (hM : M cA = (fun g => [Res.hw (g du) H]) := by exact rfl) (hM2 : M cE = (fun g => [atP (g da) fun bb => [.blk bb (.cells hwZ.toArray 29)]]) := by exact rfl)
    (hne : Nat.beq cA cE = false := by exact rfl) (hs : (stab.getD cE []).contains da = true := by exact rfl) (hsu : (stab.getD cA []).contains du = true := by exact rfl) (hfa : stab.flatten.contains da = true := by exact rfl) (hfu : stab.flatten.contains du = true := by exact rfl) (hw0 : wr.getD i [] = [cA, cE] := by exact rfl) :
    MSw (mV Tryz.prog n ops Γ K wr tc stab) Q i (⟨none, .store 29 (.tmp da) (.tmp du), ty, pos, es, none⟩ :: rest) ⟨ρ, M⟩ := by
  have hne : cA ≠ cE := fun e => by subst e; simp at hne
  have hn : Mt.nxt (mV Tryz.prog n ops Γ K wr tc stab) i ⟨ρ, M⟩ ⟨undef, setC (fun _ _ => []) cE fun g => [Res.hwv (g da) H]⟩ = setC (setC M cA fun _ => []) cE fun g => [Res.hwv (g da) H] := by
    funext y; simp only [Mt.nxt, MEnv.w, hw0, setC]
    by_cases h1 : y = cE
    · subst h1; simp
    · by_cases h0 : y = cA
      · subst h0; simp [h1]
      · simp [h0, h1]
  refine ⟨⟨undef, setC (fun _ _ => []) cE fun g => [Res.hwv (g da) H]⟩, ⟨fun Γ' Y w g hr hw => ?_⟩, ?_⟩
  · have hΓ : Γ' = Γ := hr
    subst hΓ
    rw [hn]
    refine ⟨fun _ => ?_, fun hf => ?_⟩
    · have hw' : Wd Γ' (K ++ (cellsAt tc stab i M g ++ Y)) w := hw
      unfold cellsAt at hw'
      rw [ht] at hw'
      simp only [List.flatMap_cons, List.flatMap_nil, hM, hM2, List.append_nil] at hw'
      have h2 : ovr (stab.getD cA []) g noFr du = g du := ovr_in (by simpa using hsu)
      have h3 : ovr (stab.getD cE []) g noFr da = g da := ovr_in (by simpa using hs)
      rw [h2, h3] at hw'
      have hw2 : Wd Γ' (Res.hw (g du) H :: atP (g da) (fun bb => [.blk bb (.cells hwZ.toArray 29)]) :: (K ++ Y)) w := Wd.swapApp (A := K) (B := [_, _]) hw'
      obtain ⟨⟨p, hp1, hp2⟩, hw3⟩ := hw2.openEx
      have hw4 : Wd Γ' (p.L H ++ ([atP (g da) (fun bb => [.blk bb (.cells hwZ.toArray 29)])] ++ (K ++ Y))) w := hw3
      obtain ⟨bb, hb, hw5⟩ := Wd.openAt (S := p.L H ++ (K ++ Y)) hw4.swapApp
      have hw5 : Wd Γ' (.blk bb (.cells hwZ.toArray 29) :: (p.L H ++ (K ++ Y))) w := hw5
      have hx : ev (ovr stab.flatten g ρ) (.tmp da) = .pointer (some ⟨bb, 0, none⟩) := by
        show ovr stab.flatten g ρ da = _
        rw [ovr_in (by simpa using hfa)]; exact hb
      have hy : ev (ovr stab.flatten g ρ) (.tmp du) = g du := by
        show ovr stab.flatten g ρ du = _
        rw [ovr_in (by simpa using hfu)]
      obtain ⟨v1, v2, v3, v4, v5, cs⟩ := p
      obtain ⟨a1, n1, c1, rfl, -, -, -⟩ := hw5.own_shape (i := 1) (v := v1) rfl
      obtain ⟨a2, n2, c2, rfl, -, -, -⟩ := hw5.own_shape (i := 2) (v := v2) rfl
      obtain ⟨a3, n3, c3, rfl, -, -, -⟩ := hw5.own_shape (i := 3) (v := v3) rfl
      obtain ⟨a4, n4, c4, rfl, -, -, -⟩ := hw5.own_shape (i := 4) (v := v4) rfl
      obtain ⟨a5, n5, c5, rfl, -, -, -⟩ := hw5.own_shape (i := 5) (v := v5) rfl
      refine s_store (inferInstance : TSz Tryz.prog 29 6).h hw5 hx (hy.trans hp1) (vs := [.string H.Name, .slice a1 n1 c1, .slice a2 n2 c2, .slice a3 n3 c3, .slice a4 n4 c4, .slice a5 n5 c5]) rfl rfl (fun u hu => (List.all_eq_true.1 (rfl : ([.string H.Name, .slice a1 n1 c1, .slice a2 n2 c2, .slice a3 n3 c3, .slice a4 n4 c4, .slice a5 n5 c5] : List Value).all (·.oneCell') = true)) u hu) (i := 0) rfl (Nat.le_refl 6) fun w' hw' => ⟨Γ', rfl, ?_, fun _ => rfl⟩
      show Wd Γ' (K ++ (cellsAt tc stab i _ _ ++ Y)) w'
      unfold cellsAt
      rw [ht]
      simp only [List.flatMap_cons, List.flatMap_nil, setC_other hne, setC_self, List.append_nil, List.nil_append, putO]
      rw [h3]
      have hw6 : Wd Γ' (Res.hwv (g da) H :: (K ++ Y)) w' := Wd.closeEx (X := fun q : {q : Nat × HwV // g da = .pointer (some ⟨q.1, 0, none⟩) ∧ q.2.cs.map CacheH.T = H.Caches} => .blk q.1.1 (.cells #[.string H.Name, q.1.2.v1, q.1.2.v2, q.1.2.v3, q.1.2.v4, q.1.2.v5] 29) :: q.1.2.L H) ⟨(bb, ⟨.slice a1 n1 c1, .slice a2 n2 c2, .slice a3 n3 c3, .slice a4 n4 c4, .slice a5 n5 c5, cs⟩), hb, hp2⟩ hw'
      exact Wd.unmid hw6
    · rw [wantF_none rfl] at hf; cases hf
  · simp only [Mt.next, hn]; exact h
end
/-- A variable with a description: its lists are frozen. -/
theorem openHw {Γ : Gho} {S : List Res} {w : World} {v : Value} {H : HwT} (hsz : HwSz H) (hw : Wd Γ (Res.hwv v H :: S) w) : ∃ Γ' b u, Γ.le Γ' ∧ v = .pointer (some ⟨b, 0, none⟩) ∧ HwR Γ' u H ∧ Wd Γ' (.blk b (.cells u.cells 29) :: S) w := by
  obtain ⟨⟨⟨b, v1, v2, v3, v4, v5, cs⟩, hb, hcs⟩, hw⟩ := hw.openEx
  have hw : Wd Γ (.blk b (.cells #[.string H.Name, v1, v2, v3, v4, v5] 29) :: .own v1 72 4 (H.Cores.map enc) :: .own v2 75 5 (cs.map cC) :: .own v3 77 3 (H.Links.map enc) :: .own v4 79 5 (H.Mems.map enc) :: .own v5 81 5 (H.Devs.map enc) :: (cs.map ownC ++ S)) w := hw
  obtain ⟨a1, n1, c1, rfl, -, -, -⟩ := hw.own_shape (i := 1) (v := v1) rfl
  obtain ⟨a2, n2, c2, rfl, -, -, -⟩ := hw.own_shape (i := 2) (v := v2) rfl
  obtain ⟨a3, n3, c3, rfl, -, -, -⟩ := hw.own_shape (i := 3) (v := v3) rfl
  obtain ⟨a4, n4, c4, rfl, -, -, -⟩ := hw.own_shape (i := 4) (v := v4) rfl
  obtain ⟨a5, n5, c5, rfl, -, -, -⟩ := hw.own_shape (i := 5) (v := v5) rfl
  obtain ⟨Γ1, e1, r1, hw⟩ := (hw.ps [1]).freeze
  obtain ⟨Γ2, e2, r2, hw⟩ := (Wd.ps [1] hw).freeze
  obtain ⟨Γ3, e3, r3, hw⟩ := (Wd.ps [1] hw).freeze
  obtain ⟨Γ4, e4, r4, hw⟩ := (Wd.ps [1] hw).freeze
  obtain ⟨Γ5, e5, r5, hw⟩ := (Wd.ps [1] hw).freeze
  have hw : Wd Γ5 (.blk b (.cells #[.string H.Name, .slice a1 n1 c1, .slice a2 n2 c2, .slice a3 n3 c3, .slice a4 n4 c4, .slice a5 n5 c5] 29) :: (cs.map ownC ++ S)) w := hw
  obtain ⟨Γ6, e6, h6, hw⟩ := freezeC (Wd.swapApp (A := [_]) hw)
  have f5 := e6
  have f4 := e5.trans f5
  have f3 := e4.trans f4
  have f2 := e3.trans f3
  have f1 := e2.trans f2
  exact ⟨Γ6, b, .agg #[.string H.Name, .slice a1 n1 c1, .slice a2 n2 c2, .slice a3 n3 c3, .slice a4 n4 c4, .slice a5 n5 c5], e1.trans f1, hb, ⟨_, _, _, _, _, _, _, _, _, _, _, _, _, _, _, cs, rfl, hcs, h6, hsz, r1.mono f1, r2.mono f2, r3.mono f3, r4.mono f4, r5.mono f5⟩, hw⟩
end Go.Proofs.YtnkekcippfdbgaaGreat
end
/- What is taken away from a valid description leaves it valid. -/
section
open Go Mk
namespace Go.Proofs.YtnkekcippfdbgaaGreat
set_option maxHeartbeats 8000000
attribute [local irreducible] Calls

section
variable {P : Program} {n : Nat} {ops : List Oper} {Γ : Gho} {K : List Res} {wr tc stab : List (List Nat)} {Q : Fr → World → Prop} {i : Nat} {rest : List Oper} {ρ : Fr} {M : Nat → Fr → List Res} {T ty : TypeId} {pos : String} {es : Array Edge} {x : Operand}
/-- The slice of one cell is stored into the block of another; both lie there then. -/
theorem mStoSl {cS cB b o dv E E2 sz : Nat} {cs : Array Value} {rows : List (List Value)} [hn : TSz P T 1] (h : MSw (mV P n ops Γ K wr tc stab) Q (i + 1) rest ⟨ρ, setC (setC M cS fun _ => []) cB fun _ => [Res.ex (α := Value) fun v => [.blk b (.cells (putCells cs o [v]) E), .own v E2 sz rows]]⟩)
    (ht : tc.getD i [] = [cS, cB] := by exact rfl) (hM : M cS = (fun g => [.own (g dv) E2 sz rows]) := by exact rfl) (hM2 : M cB = (fun _ => [.blk b (.cells cs E)]) := by exact rfl)
    (hne : Nat.beq cS cB = false := by exact rfl) (hs : (stab.getD cS []).contains dv = true := by exact rfl) (hfv : stab.flatten.contains dv = true := by exact rfl) (hw0 : wr.getD i [] = [cS, cB] := by exact rfl)
    (hx : ∀ g, ev (ovr stab.flatten g ρ) x = .pointer (some ⟨b, o, none⟩) := by intro g; exact rfl) (ho : o + 1 ≤ cs.size := by exact Nat.le_of_ble_eq_true rfl) :
    MSw (mV P n ops Γ K wr tc stab) Q i (⟨none, .store T x (.tmp dv), ty, pos, es, none⟩ :: rest) ⟨ρ, M⟩ := by
  have hne : cS ≠ cB := fun e => by subst e; simp at hne
  obtain ⟨NB, hNB⟩ : ∃ NB : Fr → List Res, NB = fun _ => [Res.ex (α := Value) fun v => [.blk b (.cells (putCells cs o [v]) E), .own v E2 sz rows]] := ⟨_, rfl⟩
  rw [← hNB] at h
  have hnx : Mt.nxt (mV P n ops Γ K wr tc stab) i ⟨ρ, M⟩ ⟨undef, setC (fun _ _ => []) cB NB⟩ = setC (setC M cS fun _ => []) cB NB := by
    funext y; simp only [Mt.nxt, MEnv.w, hw0, setC]
    by_cases h1 : y = cB
    · subst h1; simp
    · by_cases h0 : y = cS
      · subst h0; simp [h1]
      · simp [h0, h1]
  refine ⟨⟨undef, setC (fun _ _ => []) cB NB⟩, ⟨fun Γ' Y w g hr hw => ?_⟩, ?_⟩
  · have hΓ : Γ' = Γ := hr
    subst hΓ
    rw [hnx]
    refine ⟨fun _ => ?_, fun hf => ?_⟩
    · have hw' : Wd Γ' (K ++ (cellsAt tc stab i M g ++ Y)) w := hw
      unfold cellsAt at hw'
      rw [ht] at hw'
      simp only [List.flatMap_cons, List.flatMap_nil, hM, hM2, List.append_nil] at hw'
      have h2 : ovr (stab.getD cS []) g noFr dv = g dv := ovr_in (by simpa using hs)
      rw [h2] at hw'
      have hw2 : Wd Γ' (.own (g dv) E2 sz rows :: .blk b (.cells cs E) :: (K ++ Y)) w := Wd.swapApp (A := K) (B := [_, _]) hw'
      obtain ⟨a2, m2, c2, e1, -, -, -⟩ := hw2.own_shape (i := 0) (v := g dv) rfl
      have hy : ev (ovr stab.flatten g ρ) (.tmp dv) = g dv := by
        show ovr stab.flatten g ρ dv = _
        rw [ovr_in (by simpa using hfv)]
      refine s_store hn.h hw2 (hx g) hy (vs := [g dv]) (by rw [e1]; rfl) rfl (fun u hu => by simp at hu; subst hu; rw [e1]; rfl) (i := 1) rfl ho fun w' hw3 => ⟨Γ', rfl, ?_, fun _ => rfl⟩
      show Wd Γ' (K ++ (cellsAt tc stab i _ _ ++ Y)) w'
      unfold cellsAt
      rw [ht]
      simp only [List.flatMap_cons, List.flatMap_nil, setC_other hne, setC_self, List.append_nil, List.nil_append, putO]
      rw [hNB]
      have hw4 : Wd Γ' (.own (g dv) E2 sz rows :: .blk b (.cells (putCells cs o [g dv]) E) :: (K ++ Y)) w' := hw3
      exact Wd.unmid (Wd.closeEx (X := fun v : Value => [.blk b (.cells (putCells cs o [v]) E), .own v E2 sz rows]) (g dv) (hw4.ps [1]))
    · rw [wantF_none rfl] at hf; cases hf
  · simp only [Mt.next, hnx]; exact h
end

theorem pw_iff {α : Type} {R : α → α → Prop} : ∀ {l : List α}, l.Pairwise R ↔ ∀ (i k : Nat) (a b : α), k < i → l[i]? = some a → l[k]? = some b → R b a
  | [] => by simp
  | x :: l => by
    rw [List.pairwise_cons, pw_iff]
    constructor
    · rintro ⟨h1, h2⟩ i k a b hki ha hb
      cases i with
      | zero => omega
      | succ i =>
        simp at ha
        cases k with
        | zero => simp at hb; subst hb; exact h1 a (List.mem_of_getElem? ha)
        | succ k => simp at hb; exact h2 i k a b (by omega) ha hb
    · intro h
      refine ⟨fun a ha => ?_, fun i k a b hki ha hb => h (i + 1) (k + 1) a b (by omega) (by simpa using ha) (by simpa using hb)⟩
      obtain ⟨i, hi, he⟩ := mem_get ha
      exact h (i + 1) 0 a x (by omega) (by simpa using he) rfl
theorem disj_pw {H : HwT} : DisjP H ↔ (regs H).Pairwise fun b a => apartB a b = true := by
  rw [pw_iff]; exact Iff.rfl
def okP (a b : CacheT) : Prop := pairB 0 1 a b = true
theorem pairB_ne {i k : Nat} (h : i ≠ k) (a b : CacheT) : pairB i k a b = pairB 0 1 a b := by
  unfold pairB; rw [decide_eq_false h]; rfl
theorem hier_pw {l : List CacheT} : HierP l ↔ (∀ c ∈ l, sortedP c.Cores) ∧ l.Pairwise fun a b => okP a b ∧ okP b a := by
  unfold HierP
  refine and_congr_right fun _ => ?_
  rw [pw_iff]
  constructor
  · intro h i k a b hki ha hb
    refine ⟨?_, ?_⟩
    · have := h k i b a hb ha; rwa [pairB_ne (by omega)] at this
    · have := h i k a b ha hb; rwa [pairB_ne (by omega)] at this
  · intro h i k a b ha hb
    rcases Nat.lt_trichotomy i k with hl | hl | hl
    · rw [pairB_ne (by omega)]; exact (h k i b a hl hb ha).1
    · subst hl; simp [pairB]
    · rw [pairB_ne (by omega)]; exact (h i k a b hl ha hb).2
structure ValidP (H : HwT) : Prop where
  n : namesB H = true
  c : countsB H = true
  r : coresRB H = true
  g : regionsRB H = true
  a : alignRB H = true
  u : uniqueB H = true
  k : knownB H = true
  h : hierB H = true
  d : disjB H = true
  o : connB H = true
theorem valid_iff {H : HwT} : validS H = 0 ↔ ValidP H := by
  constructor
  · intro h
    unfold validS at h
    repeat' split at h
    all_goals first | (exact absurd h (by decide)) | skip
    rename_i h1 h2 h3 h4 h5 h6 h7 h8 h9
    simp only [Bool.not_eq_false, Bool.and_eq_true] at h1 h2 h3 h4 h5 h6 h7 h8 h9
    exact ⟨h1, h2, h3.1, h3.2, h4, h5, h6, h7, h8, h9⟩
  · rintro ⟨h1, h2, h3, h4, h5, h6, h7, h8, h9, h10⟩
    simp [validS, h1, h2, h3, h4, h5, h6, h7, h8, h9, h10]
theorem all_sub {α : Type} {l l' : List α} {p : α → Bool} (h : l.all p = true) (hs : l'.Sublist l) : l'.all p = true := by
  rw [List.all_eq_true] at *
  exact fun x hx => h x (hs.subset hx)
theorem head_cores {H : HwT} (hc : countsB H = true) (ms : List MemT) (ds : List DevT) : (usedN { H with Mems := ms, Devs := ds }).headD 0 = (usedN H).headD 0 := by
  have := (counts_le hc).1
  unfold usedN
  cases hC : H.Cores with
  | nil => rw [hC] at this; simp at this
  | cons x l => rfl
/-- Fewer memories, devices and caches: still valid. -/
theorem valid_sub {H : HwT} (v : ValidP H) {cs : List CacheT} {ms : List MemT} {ds : List DevT} (hc : cs.Sublist H.Caches) (hm : ms.Sublist H.Mems) (hd : ds.Sublist H.Devs) : ValidP { H with Caches := cs, Mems := ms, Devs := ds } := by
  obtain ⟨h1, h2, h3, h4, h5, h6, h7, h8, h9, h10⟩ := v
  have l1 := hc.length_le
  have l2 := hm.length_le
  have l3 := hd.length_le
  refine ⟨?_, ?_, ?_, ?_, ?_, ?_, ?_, ?_, ?_, ?_⟩
  · unfold namesB at h1 ⊢
    simp only [Bool.and_eq_true] at h1 ⊢
    exact ⟨⟨⟨h1.1.1.1, all_sub h1.1.1.2 hc⟩, all_sub h1.1.2 hm⟩, all_sub h1.2 hd⟩
  · have := counts_le h2
    unfold countsB
    simp only [Bool.and_eq_true, decide_eq_true_eq]
    omega
  · unfold coresRB at h3 ⊢
    simp only [Bool.and_eq_true] at h3 ⊢
    exact ⟨h3.1, all_sub h3.2.1 hc, h3.2.2⟩
  · unfold regionsRB at h4 ⊢
    simp only [Bool.and_eq_true] at h4 ⊢
    exact ⟨all_sub h4.1 hm, all_sub h4.2 hd⟩
  · unfold alignRB at h5 ⊢
    simp only [Bool.and_eq_true] at h5 ⊢
    exact ⟨all_sub h5.1 hm, all_sub h5.2 hd⟩
  · unfold uniqueB at h6 ⊢
    simp only [Bool.and_eq_true, decide_eq_true_eq] at h6 ⊢
    obtain ⟨a, ⟨⟨⟨⟨b, c⟩, d⟩, e⟩, f⟩, g⟩ := h6
    exact ⟨all_sub a hc, ⟨⟨⟨⟨b, c.sublist (hc.map _)⟩, d.sublist (hm.map _)⟩, e.sublist (hd.map _)⟩, f.sublist (hd.map _)⟩, g⟩
  · unfold knownB at h7 ⊢
    exact all_sub h7 hc
  · have := hier_pw.1 (decP_iff.1 h8)
    exact decP_t (hier_pw.2 ⟨fun c hcm => this.1 c (hc.subset hcm), this.2.sublist hc⟩)
  · have := disj_pw.1 (decP_iff.1 h9)
    exact decP_t (disj_pw.2 (this.sublist ((hm.map _).append (hd.map _))))
  · have := decP_iff.1 h10
    refine decP_t fun n hn => ?_
    have e := head_cores h2 ms ds
    have e : (usedN { H with Caches := cs, Mems := ms, Devs := ds }).headD 0 = (usedN H).headD 0 := e
    rw [e]
    refine this n ?_
    unfold usedN at hn ⊢
    simp only [List.mem_append, List.mem_map] at hn ⊢
    rcases hn with (h | ⟨x, hx, rfl⟩) | ⟨x, hx, rfl⟩
    · exact .inl (.inl h)
    · exact .inl (.inr ⟨x, hm.subset hx, rfl⟩)
    · exact .inr ⟨x, hd.subset hx, rfl⟩
theorem valid_nocores {H : HwT} (v : ValidP H) : validS { H with Cores := [] } = 15 := by
  have h1 : namesB { H with Cores := [] } = true := v.n
  have h2 : countsB { H with Cores := [] } = false := by simp [countsB]
  simp [validS, h1, h2]
theorem cut_sub {α : Type} (l : List α) (k : Nat) : (l.take k ++ l.drop (k + 1)).Sublist l := by
  have h := List.take_append_drop k l
  conv => rhs; rw [← h]
  refine List.Sublist.append (List.Sublist.refl _) ?_
  rw [show k + 1 = k + 1 from rfl, ← List.drop_drop]
  exact List.drop_sublist _ _
end Go.Proofs.YtnkekcippfdbgaaGreat
end
/- Normalize's law: the order of the lists does not matter, what is valid stays so. -/
section
open Go Mk
namespace Go.Proofs.YtnkekcippfdbgaaGreat
set_option maxHeartbeats 8000000
section
variable {α β : Type}
theorem bubC_map {f : α → β} {lt : α → α → Bool} {lt2 : β → β → Bool} (h : ∀ x y, lt2 (f x) (f y) = lt x y) : ∀ (j : Nat) (l : List α), (bubC lt j l).map f = bubC lt2 j (l.map f)
  | 0, _ => rfl
  | j + 1, l => by
    cases h1 : l[j + 1]? with
    | none =>
      have e1 : bubC lt (j + 1) l = l := by simp [bubC, h1]
      have e2 : bubC lt2 (j + 1) (l.map f) = l.map f := by simp [bubC, h1]
      rw [e1, e2]
    | some x =>
      obtain ⟨y, h2⟩ : ∃ y, l[j]? = some y := by
        obtain ⟨hl, -⟩ := List.getElem?_eq_some_iff.1 h1
        exact ⟨_, List.getElem?_eq_getElem (by omega)⟩
      have h3 : (l.map f)[j + 1]? = some (f x) := by simp [h1]
      have h4 : (l.map f)[j]? = some (f y) := by simp [h2]
      cases hb : lt x y with
      | true =>
        rw [bubC_step h1 h2 hb, bubC_step h3 h4 (by rw [h]; exact hb), bubC_map h j]
        simp [List.map_set]
      | false => rw [bubC_stop h1 h2 hb, bubC_stop h3 h4 (by rw [h]; exact hb)]
theorem isF_map {f : α → β} {lt : α → α → Bool} {lt2 : β → β → Bool} (h : ∀ x y, lt2 (f x) (f y) = lt x y) : ∀ (m i : Nat) (l : List α), (isF lt m i l).map f = isF lt2 m i (l.map f)
  | 0, _, _ => rfl
  | m + 1, i, l => by
    show (isF lt m (i + 1) (bubC lt i l)).map f = isF lt2 m (i + 1) (bubC lt2 i (l.map f))
    rw [isF_map h m, bubC_map h]
theorem isort_map {f : α → β} {lt : α → α → Bool} {lt2 : β → β → Bool} (h : ∀ x y, lt2 (f x) (f y) = lt x y) (l : List α) : (isort lt l).map f = isort lt2 (l.map f) := by
  unfold isort
  rw [isF_map h, List.length_map]
theorem nodup_key {f : α → β} : ∀ {l : List α}, (l.map f).Nodup → ∀ x ∈ l, ∀ y ∈ l, f x = f y → x = y
  | [], _, x, hx, _, _, _ => by cases hx
  | a :: l, h, x, hx, y, hy, e => by
    rw [List.map_cons, List.nodup_cons] at h
    rcases List.mem_cons.1 hx with rfl | hx1
    · rcases List.mem_cons.1 hy with rfl | hy1
      · rfl
      · exact absurd (List.mem_map.2 ⟨y, hy1, e.symm⟩) h.1
    · rcases List.mem_cons.1 hy with rfl | hy1
      · exact absurd (List.mem_map.2 ⟨x, hx1, e⟩) h.1
      · exact nodup_key h.2 x hx1 y hy1 e
theorem pw_mem {R : α → α → Prop} (hs : ∀ x y, R x y → R y x) : ∀ {l : List α}, l.Pairwise R → ∀ x ∈ l, ∀ y ∈ l, x ≠ y → R x y
  | [], _, x, hx, _, _, _ => by cases hx
  | a :: l, h, x, hx, y, hy, e => by
    rw [List.pairwise_cons] at h
    rcases List.mem_cons.1 hx with rfl | hx1
    · rcases List.mem_cons.1 hy with rfl | hy1
      · exact absurd rfl e
      · exact h.1 y hy1
    · rcases List.mem_cons.1 hy with rfl | hy1
      · exact hs _ _ (h.1 x hx1)
      · exact pw_mem hs h.2 x hx1 y hy1 e
end
def canon (l : LinkT) : LinkT := if l.B < l.A then ⟨l.B, l.A, l.Latency⟩ else l
def ltZ (x y : Int) : Bool := decide (x < y)
def sortC (c : CacheT) : CacheT := { c with Cores := isort ltZ c.Cores }
def cCacheT (x y : CacheT) : Int := orI (cI x.Level y.Level) (cB x.Name y.Name)
def normS (H : HwT) : HwT := ⟨H.Name, isort (ltC cCore) H.Cores, isort (ltC cCacheT) (H.Caches.map sortC), isort (ltC cLink) (H.Links.map canon), isort (ltC cMem) H.Mems, isort (ltC cDev) H.Devs⟩
structure SameH (H G : HwT) : Prop where
  n : G.Name = H.Name
  c : G.Cores.Perm H.Cores
  a : G.Caches.Perm H.Caches
  l : (G.Links.map canon).Perm (H.Links.map canon)
  m : G.Mems.Perm H.Mems
  d : G.Devs.Perm H.Devs
theorem canon_canon (l : LinkT) : canon (canon l) = canon l := by
  unfold canon
  by_cases h : l.B < l.A
  · rw [if_pos h, if_neg (by show ¬ l.A < l.B; omega)]
  · rw [if_neg h, if_neg h]
theorem canon_or (l : LinkT) : canon l = l ∨ canon l = ⟨l.B, l.A, l.Latency⟩ := by
  unfold canon
  by_cases h : l.B < l.A
  · exact .inr (if_pos h)
  · exact .inl (if_neg h)
theorem canon_key (l : LinkT) : linkKey (canon l) = linkKey l := by
  unfold canon
  by_cases h : l.B < l.A
  · rw [if_pos h]; unfold linkKey; simp only [h, if_true, if_neg (show ¬ l.A < l.B by omega)]
  · rw [if_neg h]
theorem canon_ends (l : LinkT) : linkKey l = ((canon l).A, (canon l).B) := by
  unfold canon linkKey
  by_cases h : l.B < l.A
  · rw [if_pos h, if_pos h, if_neg (by omega)]
  · rw [if_neg h, if_neg h]
    by_cases h2 : l.A < l.B
    · rw [if_pos h2]
    · rw [if_neg h2, show l.A = l.B by omega]
theorem canon_rb (l : LinkT) : linkRB (canon l) = linkRB l := by
  rcases canon_or l with h | h
  · rw [h]
  · rw [h]; unfold linkRB
    show (isNodeB l.B && isNodeB l.A && decide (l.B ≠ l.A) && isLatB l.Latency) = _
    rw [Bool.and_comm (isNodeB l.B), decide_eq_decide.2 (show l.B ≠ l.A ↔ l.A ≠ l.B from ⟨Ne.symm, Ne.symm⟩)]
theorem all_perm {α : Type} {l l' : List α} {p : α → Bool} (h : l.all p = true) (hs : l'.Perm l) : l'.all p = true := by
  rw [List.all_eq_true] at *
  exact fun x hx => h x (hs.subset hx)
theorem reach_sub {ls ls' : List LinkT} (h : ∀ l ∈ ls, ∃ l' ∈ ls', (l'.A = l.A ∧ l'.B = l.B) ∨ (l'.A = l.B ∧ l'.B = l.A)) {a b : Int} (hr : Reach ls a b) : Reach ls' a b := by
  induction hr with
  | refl => exact .refl
  | ab hl _ ih =>
    obtain ⟨l', h1, ⟨h2, h3⟩ | ⟨h2, h3⟩⟩ := h _ hl
    · rw [← h3]; exact .ab h1 (by rw [h2]; exact ih)
    · rw [← h2]; exact .ba h1 (by rw [h3]; exact ih)
  | ba hl _ ih =>
    obtain ⟨l', h1, ⟨h2, h3⟩ | ⟨h2, h3⟩⟩ := h _ hl
    · rw [← h2]; exact .ba h1 (by rw [h3]; exact ih)
    · rw [← h3]; exact .ab h1 (by rw [h2]; exact ih)
theorem apart_symm (x y : Int × Int) (h : apartB x y = true) : apartB y x = true := by
  unfold apartB at *
  rw [Bool.and_comm]; exact h
theorem regs_perm {H G : HwT} (s : SameH H G) : (regs G).Perm (regs H) := (s.m.map _).append (s.d.map _)
theorem used_mem {H G : HwT} (s : SameH H G) {n : Int} (h : n ∈ usedN G) : n ∈ usedN H := by
  unfold usedN at *
  simp only [List.mem_append, List.mem_map] at *
  rcases h with (⟨x, hx, rfl⟩ | ⟨x, hx, rfl⟩) | ⟨x, hx, rfl⟩
  · exact .inl (.inl ⟨x, s.c.subset hx, rfl⟩)
  · exact .inl (.inr ⟨x, s.m.subset hx, rfl⟩)
  · exact .inr ⟨x, s.d.subset hx, rfl⟩
theorem same_links {H G : HwT} (s : SameH H G) : ∀ l ∈ H.Links, ∃ l' ∈ G.Links, (l'.A = l.A ∧ l'.B = l.B) ∨ (l'.A = l.B ∧ l'.B = l.A) := fun l hl => by
  have h1 : canon l ∈ G.Links.map canon := s.l.symm.subset (List.mem_map.2 ⟨l, hl, rfl⟩)
  obtain ⟨l', h2, h3⟩ := List.mem_map.1 h1
  refine ⟨l', h2, ?_⟩
  rcases canon_or l with e | e <;> rcases canon_or l' with e' | e' <;> rw [e, e'] at h3
  · subst h3; exact .inl ⟨rfl, rfl⟩
  · exact .inr ⟨by rw [← h3], by rw [← h3]⟩
  · exact .inr ⟨by rw [h3], by rw [h3]⟩
  · have h4 := congrArg LinkT.A h3
    have h5 := congrArg LinkT.B h3
    exact .inl ⟨h5, h4⟩
theorem valid_same {H G : HwT} (v : ValidP H) (s : SameH H G) : ValidP G := by
  obtain ⟨h1, h2, h3, h4, h5, h6, h7, h8, h9, h10⟩ := v
  have hll : G.Links.length = H.Links.length := by have := s.l.length_eq; simpa using this
  refine ⟨?_, ?_, ?_, ?_, ?_, ?_, ?_, ?_, ?_, ?_⟩
  · unfold namesB at h1 ⊢
    simp only [Bool.and_eq_true] at h1 ⊢
    refine ⟨⟨⟨?_, all_perm h1.1.1.2 s.a⟩, all_perm h1.1.2 s.m⟩, all_perm h1.2 s.d⟩
    have := h1.1.1.1
    unfold headB at this ⊢
    rw [s.n]; exact this
  · have := counts_le h2
    unfold countsB
    simp only [Bool.and_eq_true, decide_eq_true_eq]
    have a1 := s.c.length_eq
    have a2 := s.a.length_eq
    have a3 := s.m.length_eq
    have a4 := s.d.length_eq
    omega
  · unfold coresRB at h3 ⊢
    simp only [Bool.and_eq_true] at h3 ⊢
    refine ⟨all_perm h3.1 s.c, all_perm h3.2.1 s.a, ?_⟩
    have e : ∀ L : List LinkT, (L.map canon).all linkRB = L.all linkRB := fun L => by
      rw [List.all_map]
      exact congrArg (List.all L) (funext fun l => canon_rb l)
    rw [← e]
    exact all_perm (by rw [e]; exact h3.2.2) s.l
  · unfold regionsRB at h4 ⊢
    simp only [Bool.and_eq_true] at h4 ⊢
    exact ⟨all_perm h4.1 s.m, all_perm h4.2 s.d⟩
  · unfold alignRB at h5 ⊢
    simp only [Bool.and_eq_true] at h5 ⊢
    exact ⟨all_perm h5.1 s.m, all_perm h5.2 s.d⟩
  · unfold uniqueB at h6 ⊢
    simp only [Bool.and_eq_true, decide_eq_true_eq] at h6 ⊢
    obtain ⟨a, ⟨⟨⟨⟨b, c⟩, d⟩, e⟩, f⟩, g⟩ := h6
    have hk : ∀ L : List LinkT, (L.map canon).map linkKey = L.map linkKey := fun L => by
      rw [List.map_map]
      exact congrArg (fun q => L.map q) (funext fun l => canon_key l)
    refine ⟨all_perm a s.a, ⟨⟨⟨⟨(s.c.map _).nodup_iff.2 b, (s.a.map _).nodup_iff.2 c⟩, (s.m.map _).nodup_iff.2 d⟩, (s.d.map _).nodup_iff.2 e⟩, (s.d.map _).nodup_iff.2 f⟩, ?_⟩
    rw [← hk]
    exact (s.l.map linkKey).nodup_iff.2 (by rw [hk]; exact g)
  · unfold knownB at h7 ⊢
    refine all_perm ?_ s.a
    rw [List.all_eq_true] at h7 ⊢
    intro c hc
    have h := h7 c hc
    rw [List.all_eq_true] at h ⊢
    intro id hid
    have h := h id hid
    rw [List.any_eq_true] at h ⊢
    obtain ⟨x, hx, e⟩ := h
    exact ⟨x, s.c.symm.subset hx, e⟩
  · have := hier_pw.1 (decP_iff.1 h8)
    exact decP_t (hier_pw.2 ⟨fun c hc => this.1 c (s.a.subset hc), this.2.perm s.a.symm fun h => ⟨h.2, h.1⟩⟩)
  · have := disj_pw.1 (decP_iff.1 h9)
    exact decP_t (disj_pw.2 (this.perm (regs_perm s).symm fun h => apart_symm _ _ h))
  · have h := decP_iff.1 h10
    have hne : usedN G ≠ [] := by
      unfold usedN
      have := counts_le h2
      have a1 := s.c.length_eq
      cases hC : G.Cores with
      | nil => rw [hC] at a1; simp at a1; omega
      | cons a l => simp
    have hh : (usedN G).headD 0 ∈ usedN G := by
      cases hu : usedN G with
      | nil => exact absurd hu hne
      | cons a l => simp
    refine decP_t fun n hn => ?_
    exact reach_sub (same_links s) (reach_trans (reach_symm (h _ (used_mem s hh))) (h n (used_mem s hn)))
theorem cCore_lt3 : Lt3 (ltC cCore) := ltC_lt3 cI_ord CoreT.ID
theorem cMem_lt3 : Lt3 (ltC cMem) := ltC_lt3 cI_ord MemT.Base
theorem cDev_lt3 : Lt3 (ltC cDev) := ltC_lt3 cI_ord DevT.IRQ
theorem cLink_lt3 : Lt3 (ltC cLink) := ltC_lt3 (cI_ord.prod cI_ord) fun x : LinkT => (x.A, x.B)
theorem cCacheT_lt3 : Lt3 (ltC cCacheT) := ltC_lt3 (cI_ord.prod cB_ord) fun x : CacheT => (x.Level, x.Name)
theorem ltZ_lt3 : Lt3 ltZ := ⟨fun x y h => by unfold ltZ at *; simp at *; omega, fun x y z h1 h2 => by unfold ltZ at *; simp at *; omega⟩
theorem sortedP_pw : ∀ {l : List Int}, sortedP l → l.Pairwise fun a b => ltZ b a = false
  | [], _ => .nil
  | [a], _ => List.pairwise_singleton ..
  | a :: b :: l, h => by
    have h1 : a ≤ b := h 0 a b rfl rfl
    have h2 := sortedP_pw (l := b :: l) fun i x y hx hy => h (i + 1) x y hx hy
    refine List.pairwise_cons.2 ⟨fun c hc => ?_, h2⟩
    rcases List.mem_cons.1 hc with rfl | hc
    · unfold ltZ; simp; omega
    · have := (List.pairwise_cons.1 h2).1 c hc
      unfold ltZ at *; simp at *; omega
theorem isort_id {l : List Int} (h : sortedP l) : isort ltZ l = l := by
  obtain ⟨p, q⟩ := isort_spec ltZ_lt3 l
  exact sorted_uniq (fun x _ y _ h1 h2 => by unfold ltZ at *; simp at *; omega) (sortedP_pw h) q p
theorem sortC_id {c : CacheT} (h : sortedP c.Cores) : sortC c = c := by
  unfold sortC; rw [isort_id h]
theorem caches_id {H : HwT} (v : ValidP H) : H.Caches.map sortC = H.Caches := by
  have h := (hier_pw.1 (decP_iff.1 v.h)).1
  generalize H.Caches = l at h
  induction l with
  | nil => rfl
  | cons c l ih => rw [List.map_cons, sortC_id (h c (List.mem_cons_self ..)), ih fun c hc => h c (List.mem_cons_of_mem _ hc)]
theorem norm_self {H : HwT} (v : ValidP H) : SameH H (normS H) where
  n := rfl
  c := (isort_spec cCore_lt3 _).1
  a := by
    have h := (isort_spec cCacheT_lt3 (H.Caches.map sortC)).1
    rw [caches_id v] at h
    show (isort (ltC cCacheT) (H.Caches.map sortC)).Perm _
    rw [caches_id v]; exact h
  l := by
    have h := ((isort_spec cLink_lt3 (H.Links.map canon)).1).map canon
    rw [List.map_map, show canon ∘ canon = canon from funext canon_canon] at h
    exact h
  m := (isort_spec cMem_lt3 _).1
  d := (isort_spec cDev_lt3 _).1
theorem norm_same {H G : HwT} (v : ValidP H) (s : SameH H G) : normS G = normS H := by
  have vG := valid_same v s
  have hu := v.u
  unfold uniqueB at hu
  simp only [Bool.and_eq_true, decide_eq_true_eq] at hu
  obtain ⟨-, ⟨⟨⟨⟨b, c⟩, d⟩, e⟩, f⟩, g⟩ := hu
  unfold normS
  rw [s.n, caches_id v, caches_id vG]
  congr 1
  · exact isort_perm cCore_lt3 (fun x hx y hy h1 h2 => nodup_key b x hx y hy (ltC_eq cI_ord CoreT.ID h1 h2)) s.c
  · exact isort_perm cCacheT_lt3 (fun x hx y hy h1 h2 => nodup_key c x hx y hy (congrArg Prod.snd (ltC_eq (cI_ord.prod cB_ord) (fun x : CacheT => (x.Level, x.Name)) h1 h2))) s.a
  · refine isort_perm cLink_lt3 (fun x hx y hy h1 h2 => ?_) s.l
    have h3 := ltC_eq (cI_ord.prod cI_ord) (fun x : LinkT => (x.A, x.B)) h1 h2
    obtain ⟨x0, hx0, rfl⟩ := List.mem_map.1 hx
    obtain ⟨y0, hy0, rfl⟩ := List.mem_map.1 hy
    have h4 : linkKey x0 = linkKey y0 := by rw [canon_ends, canon_ends]; exact h3
    rw [nodup_key g x0 hx0 y0 hy0 h4]
  · refine isort_perm cMem_lt3 (fun x hx y hy h1 h2 => ?_) s.m
    have h3 : x.Base = y.Base := ltC_eq cI_ord MemT.Base h1 h2
    have hpw := (List.pairwise_append.1 (disj_pw.1 (decP_iff.1 v.d))).1
    rw [List.pairwise_map] at hpw
    have hpw : H.Mems.Pairwise fun a b => apartB (memBlk b) (memBlk a) = true := hpw
    by_cases hne : x = y
    · exact hne
    · exfalso
      have h4 := pw_mem (fun a b h => apart_symm _ _ h) hpw x hx y hy hne
      have hr := v.g
      unfold regionsRB at hr
      simp only [Bool.and_eq_true, List.all_eq_true] at hr
      have hb : ∀ z ∈ H.Mems, z.Base < IntKind.u64.wrap (z.Base + z.Size) := fun z hz => by
        have q := hr.1 z hz
        unfold memRB inSpaceB at q
        simp only [Bool.and_eq_true, decide_eq_true_eq] at q
        obtain ⟨-, ⟨q1, q2⟩, q3⟩ := q
        simp [IntKind.wrap, IntKind.bits, IntKind.signed] at q3 ⊢
        omega
      have b1 := hb x hx
      have b2 := hb y hy
      unfold apartB memBlk at h4
      simp at h4
      omega
  · exact isort_perm cDev_lt3 (fun x hx y hy h1 h2 => nodup_key f x hx y hy (ltC_eq cI_ord DevT.IRQ h1 h2)) s.d
end Go.Proofs.YtnkekcippfdbgaaGreat
end
/- Shuffle: the lists in another order, some links turned (printed by a program). -/
section
open Go Mk
namespace Go.Proofs.YtnkekcippfdbgaaGreat
set_option maxHeartbeats 16000000
attribute [local irreducible] Calls
theorem set_perm1 {α : Type} {x y : α} : ∀ {l : List α} {i : Nat}, l[i]? = some x → (x :: l.set i y).Perm (y :: l)
  | [], i, h => by simp at h
  | a :: l, 0, h => by
    obtain rfl : a = x := by simpa using h
    exact List.Perm.swap ..
  | a :: l, i + 1, h => by
    have h1 := set_perm1 (y := y) (l := l) (i := i) (by simpa using h)
    exact (List.Perm.swap a x _).trans ((List.Perm.cons a h1).trans (List.Perm.swap y a _))
theorem set_there {α : Type} {l : List α} {i k : Nat} {x y : α} (hi : l[i]? = some x) (hk : l[k]? = some y) : (l.set i y)[k]? = some y := by
  by_cases e : i = k
  · subst e
    rw [List.getElem?_set_self (List.getElem?_eq_some_iff.1 hi).1]
  · rw [List.getElem?_set_ne e]; exact hk
theorem swapQ_perm {α : Type} {l : List α} {i k : Nat} {x y : α} (hi : l[i]? = some x) (hk : l[k]? = some y) : ((l.set i y).set k x).Perm l :=
  List.Perm.cons_inv ((set_perm1 (set_there hi hk)).trans (set_perm1 hi))
theorem swap_at {α : Type} {l : List α} {i k : Nat} {x y : α} (hi : l[i]? = some x) (hk : l[k]? = some y) : ((l.set i y).set k x)[i]? = some y := by
  have hl := (List.getElem?_eq_some_iff.1 hi).1
  by_cases e : i = k
  · subst e
    rw [hi] at hk; cases hk
    rw [List.getElem?_set_self (by simpa using hl)]
  · rw [List.getElem?_set_ne (Ne.symm e), List.getElem?_set_self hl]
theorem canon_turn (l : LinkT) : canon ⟨l.B, l.A, l.Latency⟩ = canon l := by
  unfold canon
  by_cases h : l.B < l.A
  · rw [if_pos h, if_neg (by show ¬ l.A < l.B; omega)]
  · by_cases h2 : l.A < l.B
    · rw [if_neg h, if_pos (by show l.A < l.B; exact h2)]
    · rw [if_neg h, if_neg (by show ¬ l.A < l.B; exact h2)]
      obtain ⟨x, y, z⟩ := l
      obtain rfl : x = y := by simp only at h h2; omega
      rfl
theorem set_canon {l : List LinkT} {i : Nat} {x : LinkT} (h : l[i]? = some x) : (l.set i ⟨x.B, x.A, x.Latency⟩).map canon = l.map canon := by
  rw [List.map_set, canon_turn]
  obtain ⟨h1, h2⟩ := List.getElem?_eq_some_iff.1 h
  rw [← h2]
  have : (l.map canon).set i ((l.map canon)[i]'(by simpa using h1)) = l.map canon := List.set_getElem_self ..
  simpa using this
/-- The lists are short. -/
structure HwFew (H : HwT) : Prop where
  c : H.Cores.length < 20
  h : H.Caches.length < 20
  l : H.Links.length < 20
  m : H.Mems.length < 20
  d : H.Devs.length < 20
  k : ∀ x ∈ H.Caches, x.Cores.length ≤ 12
theorem Shuffle_any {Γ : Gho} {S : List Res} {w : World} {u : Value} {H : HwT} {a : Option Addr} {m c : Nat} {L : List Int} [hh : HwR Γ u H] (hs : HwFew H) (hr : RepS Γ (.slice a m c) 1 (intRows L)) (hw : Wd Γ S w) :
    Calls Tryz.prog 10 #[u, .slice a m c] w fun e w' => ∃ Γ' u' H', Γ.le Γ' ∧ e = .returned u' ∧ SameH H H' ∧ HwOut Γ' H' S u' w' := by
  have hs' : HwLen H := ⟨Nat.le_of_lt (Nat.lt_trans hs.c (by decide)), Nat.le_of_lt (Nat.lt_trans hs.h (by decide)), Nat.le_of_lt (Nat.lt_trans hs.l (by decide)), Nat.le_of_lt (Nat.lt_trans hs.m (by decide)), Nat.le_of_lt (Nat.lt_trans hs.d (by decide)), fun x hx => Nat.le_trans (hs.k x hx) (by decide)⟩
  have hh' := hh
  obtain ⟨a1, n1, c1, a2, n2, c2, a3, n3, c3, a4, n4, c4, a5, n5, c5, cs0, rfl, -⟩ := hh'.h
  clear hh'
  refine calls_of_WC Tryz.func10 rfl rfl ?_
  repeat (first | refine byW ?_ | (refine byV ?_; intro w hw))
  refine lBox ?_
  intro b2 w hw
  refine lAlloc ?_
  intro b4 w hw
  repeat (first | refine byW ?_ | (refine byV ?_; intro w hw))
  refine lBox ?_
  intro b5 w hw
  have hw : Wd Γ (drwB b5 a m c 0 :: .blk b4 (.cells hwZ.toArray 29) :: .blk b2 (hwC H a1 n1 c1 a2 n2 c2 a3 n3 c3 a4 n4 c4 a5 n5 c5) :: S) w := hw
  repeat (first | refine byW ?_ | (refine byV ?_; intro w hw))
  refine lCall ?_
  refine (Copy_any (hh := hh) hs' hw).mono ?_
  clear hw
  rintro r w ⟨u', rfl, hw⟩
  refine ⟨_, rfl, ?_⟩
  obtain ⟨⟨p, hp1, hp2⟩, hwa⟩ := Wd.openEx hw
  clear hw
  obtain ⟨v1, v2, v3, v4, v5, cs⟩ := p
  have hp1 : u' = .agg #[.string H.Name, v1, v2, v3, v4, v5] := hp1
  have hp2 : cs.map CacheH.T = H.Caches := hp2
  have hwb : Wd Γ (([.own v1 72 4 (H.Cores.map enc), .own v2 75 5 (cs.map cC), .own v3 77 3 (H.Links.map enc), .own v4 79 5 (H.Mems.map enc), .own v5 81 5 (H.Devs.map enc)] : List Res) ++ (cs.map ownC ++ (drwB b5 a m c 0 :: .blk b4 (.cells hwZ.toArray 29) :: .blk b2 (hwC H a1 n1 c1 a2 n2 c2 a3 n3 c3 a4 n4 c4 a5 n5 c5) :: S))) w := hwa
  clear hwa
  obtain ⟨Γ1, hle, hok, hw⟩ := freezeC hwb.swapApp
  clear hwb
  have hr := RepS.mono hr hle
  obtain ⟨A1, N1, C1, rfl, hN1, -, -⟩ := hw.own_shape (i := 0) rfl
  obtain ⟨A2, N2, C2, rfl, hN2, -, -⟩ := hw.own_shape (i := 1) rfl
  obtain ⟨A3, N3, C3, rfl, hN3, -, -⟩ := hw.own_shape (i := 2) rfl
  obtain ⟨A4, N4, C4, rfl, hN4, -, -⟩ := hw.own_shape (i := 3) rfl
  obtain ⟨A5, N5, C5, rfl, hN5, -, -⟩ := hw.own_shape (i := 4) rfl
  subst hp1
  simp only [List.length_map] at hN1 hN2 hN3 hN4 hN5
  have hcl : cs.length = H.Caches.length := by rw [← hp2]; simp
  obtain ⟨s1, s2, s3, s4, s5, -⟩ := hs
  repeat (first | refine byW ?_ | (refine byV ?_; intro w hw))
  refine lAlloc ?_
  intro b6 w hw
  refine lStore ?_
  intro w hw
  have hw : Wd Γ1 (.blk b6 (hwC H A1 N1 C1 A2 N2 C2 A3 N3 C3 A4 N4 C4 A5 N5 C5) :: .own (.slice A1 N1 C1) 72 4 (H.Cores.map enc) :: .own (.slice A2 N2 C2) 75 5 (cs.map cC) :: .own (.slice A3 N3 C3) 77 3 (H.Links.map enc) :: .own (.slice A4 N4 C4) 79 5 (H.Mems.map enc) :: .own (.slice A5 N5 C5) 81 5 (H.Devs.map enc) :: drwB b5 a m c 0 :: .blk b4 (.cells hwZ.toArray 29) :: .blk b2 (hwC H a1 n1 c1 a2 n2 c2 a3 n3 c3 a4 n4 c4 a5 n5 c5) :: S) w := hw
  have hw := (hw.ps [6]).dropAt 8
  have hw : Wd Γ1 (drwB b5 a m c (0) :: .blk b6 (hwC H A1 N1 C1 A2 N2 C2 A3 N3 C3 A4 N4 C4 A5 N5 C5) :: .own (.slice A1 N1 C1) 72 4 ((H.Cores).map enc) :: .own (.slice A2 N2 C2) 75 5 ((cs).map cC) :: .own (.slice A3 N3 C3) 77 3 ((H.Links).map enc) :: .own (.slice A4 N4 C4) 79 5 ((H.Mems).map enc) :: .own (.slice A5 N5 C5) 81 5 ((H.Devs).map enc) :: .blk b4 (.cells hwZ.toArray 29) :: S) w := hw
  repeat (first | refine byW ?_ | (refine byV ?_; intro w hw))
  refine W_loop (fun μ ρ w => ∃ (j k : Nat) (X : List CoreT), μ = j ∧ j ≤ N1 ∧ X.length = N1 ∧ k + 1 * j ≤ 20 ∧ X.Perm H.Cores ∧ Has ρ [(4, .pointer (some ⟨b4, 0, none⟩)), (5, .pointer (some ⟨b5, 0, none⟩)), (6, .pointer (some ⟨b6, 0, none⟩)), (7, .int .i64 ((j : Int) - 1))] ∧ Wd Γ1 (drwB b5 a m c (k) :: .blk b6 (hwC H A1 N1 C1 A2 N2 C2 A3 N3 C3 A4 N4 C4 A5 N5 C5) :: .own (.slice A1 N1 C1) 72 4 (X.map enc) :: .own (.slice A2 N2 C2) 75 5 ((cs).map cC) :: .own (.slice A3 N3 C3) 77 3 ((H.Links).map enc) :: .own (.slice A4 N4 C4) 79 5 ((H.Mems).map enc) :: .own (.slice A5 N5 C5) 81 5 ((H.Devs).map enc) :: .blk b4 (.cells hwZ.toArray 29) :: S) w) N1 ⟨N1, 0, H.Cores, rfl, Nat.le_refl _, by omega, by omega, List.Perm.refl _, ⟨rfl, rfl, rfl, rfl, trivial⟩, hw⟩ ?_
  clear hw
  rintro j ρ w ⟨_, k, X, rfl, hj, hX, hkb, hperm, hρ, hw⟩
  rw [hρ.eq]
  clear hρ
  repeat (first | refine byW ?_ | (refine byV ?_; intro w hw))
  refine W_cond rfl (fun h => ?_) (fun h => ?_)
  · have hj2 : 2 ≤ j := by have := of_decide_eq_true h; omega
    clear h
    obtain ⟨hq0, hq1⟩ := nx_range (L := L) (k := k) (n := (j : Int) - 1 + 1) (by omega)
    have hN := Next_any (n := (j : Int) - 1 + 1) (by omega) (by omega) hr hw
    obtain ⟨q, hq⟩ : ∃ q : Nat, nx L k ((j : Int) - 1 + 1) = q := ⟨(nx L k ((j : Int) - 1 + 1)).toNat, by omega⟩
    rw [hq] at hN hq0 hq1
    have hqj : q < j := by omega
    repeat (first | refine byW ?_ | (refine byV ?_; intro w hw))
    refine lCall ?_
    refine hN.mono ?_
    clear hw hN
    rintro r w ⟨rfl, hw⟩
    refine ⟨_, rfl, ?_⟩
    obtain ⟨x, hx⟩ := get_lt (l := X) (k := j - 1) (by omega)
    obtain ⟨y, hy⟩ := get_lt (l := X) (k := q) (by omega)
    have hj1 : ((j : Int) - 1).toNat = j - 1 := by omega
    have hxk : X[((j : Int) - 1).toNat]? = some x := by rw [hj1]; exact hx
    repeat (first | refine byW ?_ | (refine byV ?_; intro w hw))
    refine lAlloc ?_
    intro b9 w hw
    refine lStore ?_
    intro w hw
    have hw : Wd Γ1 (.blk b9 (.cells (enc x).toArray 72) :: drwB b5 a m c (k + 1) :: .blk b6 (hwC H A1 N1 C1 A2 N2 C2 A3 N3 C3 A4 N4 C4 A5 N5 C5) :: .own (.slice A1 N1 C1) 72 4 (X.map enc) :: .own (.slice A2 N2 C2) 75 5 ((cs).map cC) :: .own (.slice A3 N3 C3) 77 3 ((H.Links).map enc) :: .own (.slice A4 N4 C4) 79 5 ((H.Mems).map enc) :: .own (.slice A5 N5 C5) 81 5 ((H.Devs).map enc) :: .blk b4 (.cells hwZ.toArray 29) :: S) w := hw
    repeat (first | refine byW ?_ | (refine byV ?_; intro w hw))
    refine W_mix1 [] _ [[],[],[],[],[],[],[],[],[],[0]] [[],[0],[],[],[0],[],[0],[0],[0],[0]] hw ?_
    repeat (first | refine mY ?_ | refine mP ?_ | refine mEndAt ?_ | refine mEnd0 ?_ | refine mEnd ?_)
    refine mStoreE (j := 3) (k := ((j : Int) - 1).toNat) (r := enc y) ?_
    repeat (first | refine mY ?_ | refine mP ?_ | refine mEndAt ?_ | refine mEnd0 ?_ | refine mEnd ?_)
    intro w hw
    have hw := Wd.left (S := Res.blk _ _ :: _) hw
    have hw : Wd Γ1 (.blk b9 (.cells (enc x).toArray 72) :: drwB b5 a m c (k + 1) :: .blk b6 (hwC H A1 N1 C1 A2 N2 C2 A3 N3 C3 A4 N4 C4 A5 N5 C5) :: .own (.slice A1 N1 C1) 72 4 ((X.map enc).set ((j : Int) - 1).toNat (enc y)) :: .own (.slice A2 N2 C2) 75 5 ((cs).map cC) :: .own (.slice A3 N3 C3) 77 3 ((H.Links).map enc) :: .own (.slice A4 N4 C4) 79 5 ((H.Mems).map enc) :: .own (.slice A5 N5 C5) 81 5 ((H.Devs).map enc) :: .blk b4 (.cells hwZ.toArray 29) :: S) w := hw
    repeat (first | refine byW ?_ | (refine byV ?_; intro w hw))
    refine lStoreE (i := 3) (k := q) (r := enc x) ?_
    intro w hw
    have hw : Wd Γ1 (.blk b9 (.cells (enc x).toArray 72) :: drwB b5 a m c (k + 1) :: .blk b6 (hwC H A1 N1 C1 A2 N2 C2 A3 N3 C3 A4 N4 C4 A5 N5 C5) :: .own (.slice A1 N1 C1) 72 4 (((X.map enc).set ((j : Int) - 1).toNat (enc y)).set q (enc x)) :: .own (.slice A2 N2 C2) 75 5 ((cs).map cC) :: .own (.slice A3 N3 C3) 77 3 ((H.Links).map enc) :: .own (.slice A4 N4 C4) 79 5 ((H.Mems).map enc) :: .own (.slice A5 N5 C5) 81 5 ((H.Devs).map enc) :: .blk b4 (.cells hwZ.toArray 29) :: S) w := hw
    have hw := hw.drop
    rw [hj1, ← List.map_set, ← List.map_set] at hw
    have hw : Wd Γ1 (drwB b5 a m c (k + 1) :: .blk b6 (hwC H A1 N1 C1 A2 N2 C2 A3 N3 C3 A4 N4 C4 A5 N5 C5) :: .own (.slice A1 N1 C1) 72 4 (((X.set (j - 1) y).set q x).map enc) :: .own (.slice A2 N2 C2) 75 5 ((cs).map cC) :: .own (.slice A3 N3 C3) 77 3 ((H.Links).map enc) :: .own (.slice A4 N4 C4) 79 5 ((H.Mems).map enc) :: .own (.slice A5 N5 C5) 81 5 ((H.Devs).map enc) :: .blk b4 (.cells hwZ.toArray 29) :: S) w := hw
    repeat (first | refine byW ?_ | (refine byV ?_; intro w hw))
    exact ⟨j - 1, by omega, j - 1, k + 1, _, rfl, by omega, by simp only [List.length_set]; exact hX, by omega, (swapQ_perm hx hy).trans hperm, ⟨rfl, rfl, rfl, by rw [show ((j - 1 : Nat) : Int) = (j : Int) - 1 from by omega]; rfl, trivial⟩, hw⟩
  have hkb1 : k ≤ 20 := by omega
  clear h hj hkb
  revert k X
  intro k1 X1 hX1 hp1 hw hkb1
  have hw : Wd Γ1 (drwB b5 a m c (k1) :: .blk b6 (hwC H A1 N1 C1 A2 N2 C2 A3 N3 C3 A4 N4 C4 A5 N5 C5) :: .own (.slice A2 N2 C2) 75 5 ((cs).map cC) :: .own (.slice A1 N1 C1) 72 4 ((X1).map enc) :: .own (.slice A3 N3 C3) 77 3 ((H.Links).map enc) :: .own (.slice A4 N4 C4) 79 5 ((H.Mems).map enc) :: .own (.slice A5 N5 C5) 81 5 ((H.Devs).map enc) :: .blk b4 (.cells hwZ.toArray 29) :: S) w := hw.ps [3, 2, 2]
  repeat (first | refine byW ?_ | (refine byV ?_; intro w hw))
  refine W_loop (fun μ ρ w => ∃ (j k : Nat) (X : List CacheH), μ = j ∧ j ≤ N2 ∧ X.length = N2 ∧ k + 1 * j ≤ 40 ∧ X.Perm cs ∧ Has ρ [(4, .pointer (some ⟨b4, 0, none⟩)), (5, .pointer (some ⟨b5, 0, none⟩)), (6, .pointer (some ⟨b6, 0, none⟩)), (10, .int .i64 ((j : Int) - 1))] ∧ Wd Γ1 (drwB b5 a m c (k) :: .blk b6 (hwC H A1 N1 C1 A2 N2 C2 A3 N3 C3 A4 N4 C4 A5 N5 C5) :: .own (.slice A2 N2 C2) 75 5 (X.map cC) :: .own (.slice A1 N1 C1) 72 4 ((X1).map enc) :: .own (.slice A3 N3 C3) 77 3 ((H.Links).map enc) :: .own (.slice A4 N4 C4) 79 5 ((H.Mems).map enc) :: .own (.slice A5 N5 C5) 81 5 ((H.Devs).map enc) :: .blk b4 (.cells hwZ.toArray 29) :: S) w) N2 ⟨N2, k1, cs, rfl, Nat.le_refl _, by omega, by omega, List.Perm.refl _, ⟨rfl, rfl, rfl, rfl, trivial⟩, hw⟩ ?_
  clear hw
  rintro j ρ w ⟨_, k, X, rfl, hj, hX, hkb, hperm, hρ, hw⟩
  rw [hρ.eq]
  clear hρ
  repeat (first | refine byW ?_ | (refine byV ?_; intro w hw))
  refine W_cond rfl (fun h => ?_) (fun h => ?_)
  · have hj2 : 2 ≤ j := by have := of_decide_eq_true h; omega
    clear h
    obtain ⟨hq0, hq1⟩ := nx_range (L := L) (k := k) (n := (j : Int) - 1 + 1) (by omega)
    have hN := Next_any (n := (j : Int) - 1 + 1) (by omega) (by omega) hr hw
    obtain ⟨q, hq⟩ : ∃ q : Nat, nx L k ((j : Int) - 1 + 1) = q := ⟨(nx L k ((j : Int) - 1 + 1)).toNat, by omega⟩
    rw [hq] at hN hq0 hq1
    have hqj : q < j := by omega
    repeat (first | refine byW ?_ | (refine byV ?_; intro w hw))
    refine lCall ?_
    refine hN.mono ?_
    clear hw hN
    rintro r w ⟨rfl, hw⟩
    refine ⟨_, rfl, ?_⟩
    obtain ⟨x, hx⟩ := get_lt (l := X) (k := j - 1) (by omega)
    obtain ⟨y, hy⟩ := get_lt (l := X) (k := q) (by omega)
    have hj1 : ((j : Int) - 1).toNat = j - 1 := by omega
    have hxk : X[((j : Int) - 1).toNat]? = some x := by rw [hj1]; exact hx
    repeat (first | refine byW ?_ | (refine byV ?_; intro w hw))
    refine lAlloc ?_
    intro b9 w hw
    refine lStore ?_
    intro w hw
    have hw : Wd Γ1 (.blk b9 (.cells (cC x).toArray 75) :: drwB b5 a m c (k + 1) :: .blk b6 (hwC H A1 N1 C1 A2 N2 C2 A3 N3 C3 A4 N4 C4 A5 N5 C5) :: .own (.slice A2 N2 C2) 75 5 (X.map cC) :: .own (.slice A1 N1 C1) 72 4 ((X1).map enc) :: .own (.slice A3 N3 C3) 77 3 ((H.Links).map enc) :: .own (.slice A4 N4 C4) 79 5 ((H.Mems).map enc) :: .own (.slice A5 N5 C5) 81 5 ((H.Devs).map enc) :: .blk b4 (.cells hwZ.toArray 29) :: S) w := hw
    repeat (first | refine byW ?_ | (refine byV ?_; intro w hw))
    refine W_mix1 [] _ [[],[],[],[],[],[],[],[],[],[0]] [[],[0],[],[],[0],[],[0],[0],[0],[0]] hw ?_
    repeat (first | refine mY ?_ | refine mP ?_ | refine mEndAt ?_ | refine mEnd0 ?_ | refine mEnd ?_)
    refine mStoreE (j := 3) (k := ((j : Int) - 1).toNat) (r := cC y) ?_
    repeat (first | refine mY ?_ | refine mP ?_ | refine mEndAt ?_ | refine mEnd0 ?_ | refine mEnd ?_)
    intro w hw
    have hw := Wd.left (S := Res.blk _ _ :: _) hw
    have hw : Wd Γ1 (.blk b9 (.cells (cC x).toArray 75) :: drwB b5 a m c (k + 1) :: .blk b6 (hwC H A1 N1 C1 A2 N2 C2 A3 N3 C3 A4 N4 C4 A5 N5 C5) :: .own (.slice A2 N2 C2) 75 5 ((X.map cC).set ((j : Int) - 1).toNat (cC y)) :: .own (.slice A1 N1 C1) 72 4 ((X1).map enc) :: .own (.slice A3 N3 C3) 77 3 ((H.Links).map enc) :: .own (.slice A4 N4 C4) 79 5 ((H.Mems).map enc) :: .own (.slice A5 N5 C5) 81 5 ((H.Devs).map enc) :: .blk b4 (.cells hwZ.toArray 29) :: S) w := hw
    repeat (first | refine byW ?_ | (refine byV ?_; intro w hw))
    refine lStoreE (i := 3) (k := q) (r := cC x) ?_
    intro w hw
    have hw : Wd Γ1 (.blk b9 (.cells (cC x).toArray 75) :: drwB b5 a m c (k + 1) :: .blk b6 (hwC H A1 N1 C1 A2 N2 C2 A3 N3 C3 A4 N4 C4 A5 N5 C5) :: .own (.slice A2 N2 C2) 75 5 (((X.map cC).set ((j : Int) - 1).toNat (cC y)).set q (cC x)) :: .own (.slice A1 N1 C1) 72 4 ((X1).map enc) :: .own (.slice A3 N3 C3) 77 3 ((H.Links).map enc) :: .own (.slice A4 N4 C4) 79 5 ((H.Mems).map enc) :: .own (.slice A5 N5 C5) 81 5 ((H.Devs).map enc) :: .blk b4 (.cells hwZ.toArray 29) :: S) w := hw
    have hw := hw.drop
    rw [hj1, ← List.map_set, ← List.map_set] at hw
    have hw : Wd Γ1 (drwB b5 a m c (k + 1) :: .blk b6 (hwC H A1 N1 C1 A2 N2 C2 A3 N3 C3 A4 N4 C4 A5 N5 C5) :: .own (.slice A2 N2 C2) 75 5 (((X.set (j - 1) y).set q x).map cC) :: .own (.slice A1 N1 C1) 72 4 ((X1).map enc) :: .own (.slice A3 N3 C3) 77 3 ((H.Links).map enc) :: .own (.slice A4 N4 C4) 79 5 ((H.Mems).map enc) :: .own (.slice A5 N5 C5) 81 5 ((H.Devs).map enc) :: .blk b4 (.cells hwZ.toArray 29) :: S) w := hw
    repeat (first | refine byW ?_ | (refine byV ?_; intro w hw))
    exact ⟨j - 1, by omega, j - 1, k + 1, _, rfl, by omega, by simp only [List.length_set]; exact hX, by omega, (swapQ_perm hx hy).trans hperm, ⟨rfl, rfl, rfl, by rw [show ((j - 1 : Nat) : Int) = (j : Int) - 1 from by omega]; rfl, trivial⟩, hw⟩
  have hkb2 : k ≤ 40 := by omega
  clear h hj hkb
  revert k X
  intro k2 X2 hX2 hp2' hw hkb2
  have hw : Wd Γ1 (drwB b5 a m c (k2) :: .blk b6 (hwC H A1 N1 C1 A2 N2 C2 A3 N3 C3 A4 N4 C4 A5 N5 C5) :: .own (.slice A3 N3 C3) 77 3 ((H.Links).map enc) :: .own (.slice A2 N2 C2) 75 5 ((X2).map cC) :: .own (.slice A1 N1 C1) 72 4 ((X1).map enc) :: .own (.slice A4 N4 C4) 79 5 ((H.Mems).map enc) :: .own (.slice A5 N5 C5) 81 5 ((H.Devs).map enc) :: .blk b4 (.cells hwZ.toArray 29) :: S) w := hw.ps [4, 2, 2]
  repeat (first | refine byW ?_ | (refine byV ?_; intro w hw))
  refine W_loop (fun μ ρ w => ∃ (j k : Nat) (X : List LinkT), μ = j ∧ j ≤ N3 ∧ X.length = N3 ∧ k + 2 * j ≤ 80 ∧ (X.map canon).Perm (H.Links.map canon) ∧ Has ρ [(4, .pointer (some ⟨b4, 0, none⟩)), (5, .pointer (some ⟨b5, 0, none⟩)), (6, .pointer (some ⟨b6, 0, none⟩)), (13, .int .i64 ((j : Int) - 1))] ∧ Wd Γ1 (drwB b5 a m c (k) :: .blk b6 (hwC H A1 N1 C1 A2 N2 C2 A3 N3 C3 A4 N4 C4 A5 N5 C5) :: .own (.slice A3 N3 C3) 77 3 (X.map enc) :: .own (.slice A2 N2 C2) 75 5 ((X2).map cC) :: .own (.slice A1 N1 C1) 72 4 ((X1).map enc) :: .own (.slice A4 N4 C4) 79 5 ((H.Mems).map enc) :: .own (.slice A5 N5 C5) 81 5 ((H.Devs).map enc) :: .blk b4 (.cells hwZ.toArray 29) :: S) w) N3 ⟨N3, k2, H.Links, rfl, Nat.le_refl _, by omega, by omega, List.Perm.refl _, ⟨rfl, rfl, rfl, rfl, trivial⟩, hw⟩ ?_
  clear hw
  rintro j ρ w ⟨_, k, X, rfl, hj, hX, hkb, hperm, hρ, hw⟩
  rw [hρ.eq]
  clear hρ
  repeat (first | refine byW ?_ | (refine byV ?_; intro w hw))
  refine W_cond rfl (fun h => ?_) (fun h => ?_)
  · have hj2 : 1 ≤ j := by have := of_decide_eq_true h; omega
    clear h
    obtain ⟨hq0, hq1⟩ := nx_range (L := L) (k := k) (n := (j : Int) - 1 + 1) (by omega)
    have hN := Next_any (n := (j : Int) - 1 + 1) (by omega) (by omega) hr hw
    obtain ⟨q, hq⟩ : ∃ q : Nat, nx L k ((j : Int) - 1 + 1) = q := ⟨(nx L k ((j : Int) - 1 + 1)).toNat, by omega⟩
    rw [hq] at hN hq0 hq1
    have hqj : q < j := by omega
    repeat (first | refine byW ?_ | (refine byV ?_; intro w hw))
    refine lCall ?_
    refine hN.mono ?_
    clear hw hN
    rintro r w ⟨rfl, hw⟩
    refine ⟨_, rfl, ?_⟩
    obtain ⟨x, hx⟩ := get_lt (l := X) (k := j - 1) (by omega)
    obtain ⟨y, hy⟩ := get_lt (l := X) (k := q) (by omega)
    have hj1 : ((j : Int) - 1).toNat = j - 1 := by omega
    have hxk : X[((j : Int) - 1).toNat]? = some x := by rw [hj1]; exact hx
    repeat (first | refine byW ?_ | (refine byV ?_; intro w hw))
    refine lAlloc ?_
    intro b9 w hw
    refine lStore ?_
    intro w hw
    have hw : Wd Γ1 (.blk b9 (.cells (enc x).toArray 77) :: drwB b5 a m c (k + 1) :: .blk b6 (hwC H A1 N1 C1 A2 N2 C2 A3 N3 C3 A4 N4 C4 A5 N5 C5) :: .own (.slice A3 N3 C3) 77 3 (X.map enc) :: .own (.slice A2 N2 C2) 75 5 ((X2).map cC) :: .own (.slice A1 N1 C1) 72 4 ((X1).map enc) :: .own (.slice A4 N4 C4) 79 5 ((H.Mems).map enc) :: .own (.slice A5 N5 C5) 81 5 ((H.Devs).map enc) :: .blk b4 (.cells hwZ.toArray 29) :: S) w := hw
    repeat (first | refine byW ?_ | (refine byV ?_; intro w hw))
    refine W_mix1 [] _ [[],[],[],[],[],[],[],[],[],[0]] [[],[0],[],[],[0],[],[0],[0],[0],[0]] hw ?_
    repeat (first | refine mY ?_ | refine mP ?_ | refine mEndAt ?_ | refine mEnd0 ?_ | refine mEnd ?_)
    refine mStoreE (j := 3) (k := ((j : Int) - 1).toNat) (r := enc y) ?_
    repeat (first | refine mY ?_ | refine mP ?_ | refine mEndAt ?_ | refine mEnd0 ?_ | refine mEnd ?_)
    intro w hw
    have hw := Wd.left (S := Res.blk _ _ :: _) hw
    have hw : Wd Γ1 (.blk b9 (.cells (enc x).toArray 77) :: drwB b5 a m c (k + 1) :: .blk b6 (hwC H A1 N1 C1 A2 N2 C2 A3 N3 C3 A4 N4 C4 A5 N5 C5) :: .own (.slice A3 N3 C3) 77 3 ((X.map enc).set ((j : Int) - 1).toNat (enc y)) :: .own (.slice A2 N2 C2) 75 5 ((X2).map cC) :: .own (.slice A1 N1 C1) 72 4 ((X1).map enc) :: .own (.slice A4 N4 C4) 79 5 ((H.Mems).map enc) :: .own (.slice A5 N5 C5) 81 5 ((H.Devs).map enc) :: .blk b4 (.cells hwZ.toArray 29) :: S) w := hw
    repeat (first | refine byW ?_ | (refine byV ?_; intro w hw))
    refine lStoreE (i := 3) (k := q) (r := enc x) ?_
    intro w hw
    have hw : Wd Γ1 (.blk b9 (.cells (enc x).toArray 77) :: drwB b5 a m c (k + 1) :: .blk b6 (hwC H A1 N1 C1 A2 N2 C2 A3 N3 C3 A4 N4 C4 A5 N5 C5) :: .own (.slice A3 N3 C3) 77 3 (((X.map enc).set ((j : Int) - 1).toNat (enc y)).set q (enc x)) :: .own (.slice A2 N2 C2) 75 5 ((X2).map cC) :: .own (.slice A1 N1 C1) 72 4 ((X1).map enc) :: .own (.slice A4 N4 C4) 79 5 ((H.Mems).map enc) :: .own (.slice A5 N5 C5) 81 5 ((H.Devs).map enc) :: .blk b4 (.cells hwZ.toArray 29) :: S) w := hw
    have hw := hw.drop
    rw [hj1, ← List.map_set, ← List.map_set] at hw
    have hw : Wd Γ1 (drwB b5 a m c (k + 1) :: .blk b6 (hwC H A1 N1 C1 A2 N2 C2 A3 N3 C3 A4 N4 C4 A5 N5 C5) :: .own (.slice A3 N3 C3) 77 3 (((X.set (j - 1) y).set q x).map enc) :: .own (.slice A2 N2 C2) 75 5 ((X2).map cC) :: .own (.slice A1 N1 C1) 72 4 ((X1).map enc) :: .own (.slice A4 N4 C4) 79 5 ((H.Mems).map enc) :: .own (.slice A5 N5 C5) 81 5 ((H.Devs).map enc) :: .blk b4 (.cells hwZ.toArray 29) :: S) w := hw
    have hyj := swap_at hx hy
    have hY : (((X.set (j - 1) y).set q x).map canon).Perm (H.Links.map canon) := ((swapQ_perm hx hy).map canon).trans hperm
    have hYl : ((X.set (j - 1) y).set q x).length = N3 := by simp only [List.length_set]; exact hX
    generalize (X.set (j - 1) y).set q x = Y at hw hyj hY hYl
    clear hx hxk hy hperm hX
    repeat (first | refine byW ?_ | (refine byV ?_; intro w hw))
    refine lCall ?_
    refine (Next_any (n := 2) (by omega) (by omega) hr hw).mono ?_
    clear hw
    rintro r w ⟨rfl, hw⟩
    refine ⟨_, rfl, ?_⟩
    have hyk : Y[((j : Int) - 1).toNat]? = some y := by rw [hj1]; exact hyj
    have hw : Wd Γ1 (drwB b5 a m c (k + 1 + 1) :: .blk b6 (hwC H A1 N1 C1 A2 N2 C2 A3 N3 C3 A4 N4 C4 A5 N5 C5) :: .own (.slice A3 N3 C3) 77 3 ((Y.map enc)) :: .own (.slice A2 N2 C2) 75 5 ((X2).map cC) :: .own (.slice A1 N1 C1) 72 4 ((X1).map enc) :: .own (.slice A4 N4 C4) 79 5 ((H.Mems).map enc) :: .own (.slice A5 N5 C5) 81 5 ((H.Devs).map enc) :: .blk b4 (.cells hwZ.toArray 29) :: S) w := hw
    repeat (first | refine byW ?_ | (refine byV ?_; intro w hw))
    refine W_cond rfl (fun h => ?_) (fun h => ?_)
    · repeat (first | refine byW ?_ | (refine byV ?_; intro w hw))
      refine W_mix1 [] _ [[],[],[],[],[],[],[],[],[],[],[],[0]] [[],[0],[],[],[0],[],[0],[],[0],[0],[],[0]] hw ?_
      repeat (first | refine mY ?_ | refine mP ?_ | refine mEndAt ?_ | refine mEnd0 ?_ | refine mEnd ?_)
      refine mS (c := 0) (v := undef) (fun _ => drwB b5 a m c (k + 1 + 1) :: .blk b6 (hwC H A1 N1 C1 A2 N2 C2 A3 N3 C3 A4 N4 C4 A5 N5 C5) :: .own (.slice A3 N3 C3) 77 3 ((Y.set (j - 1) ⟨y.B, y.B, y.Latency⟩).map enc) :: .own (.slice A2 N2 C2) 75 5 ((X2).map cC) :: .own (.slice A1 N1 C1) 72 4 ((X1).map enc) :: .own (.slice A4 N4 C4) 79 5 ((H.Mems).map enc) :: .own (.slice A5 N5 C5) 81 5 ((H.Devs).map enc) :: .blk b4 (.cells hwZ.toArray 29) :: S) (fun g w Z hw => ?_) ?_ (hM := rfl)
      · refine s_storeEf (i := 2) (k := j - 1) (r := [.int .i64 y.B]) (row := enc y) (f := 0) (m := 1) TSz.h hw (by show _ = _; rw [← hj1]; rfl) rfl rfl rfl rfl rfl (by omega) (by simp [hyj]) (by omega) fun w' hw' => ⟨fun _ => rfl, ?_⟩
        rw [List.map_set]
        exact hw'
      repeat (first | refine mY ?_ | refine mP ?_ | refine mEndAt ?_ | refine mEnd0 ?_ | refine mEnd ?_)
      intro w hw
      have hw := Wd.left (S := drwB _ _ _ _ _ :: _) hw
      have hw : Wd Γ1 (drwB b5 a m c (k + 1 + 1) :: .blk b6 (hwC H A1 N1 C1 A2 N2 C2 A3 N3 C3 A4 N4 C4 A5 N5 C5) :: .own (.slice A3 N3 C3) 77 3 ((Y.set (j - 1) ⟨y.B, y.B, y.Latency⟩).map enc) :: .own (.slice A2 N2 C2) 75 5 ((X2).map cC) :: .own (.slice A1 N1 C1) 72 4 ((X1).map enc) :: .own (.slice A4 N4 C4) 79 5 ((H.Mems).map enc) :: .own (.slice A5 N5 C5) 81 5 ((H.Devs).map enc) :: .blk b4 (.cells hwZ.toArray 29) :: S) w := hw
      have hyk2 : (Y.set (j - 1) (⟨y.B, y.B, y.Latency⟩ : LinkT))[((j : Int) - 1).toNat]? = some ⟨y.B, y.B, y.Latency⟩ := by rw [hj1, List.getElem?_set_self (by omega)]
      repeat (first | refine byW ?_ | (refine byV ?_; intro w hw))
      have hrw : ((Y.set (j - 1) (⟨y.B, y.B, y.Latency⟩ : LinkT)).map enc)[((j : Int) - 1).toNat]? = some (enc (⟨y.B, y.B, y.Latency⟩ : LinkT)) := by rw [List.getElem?_map, hyk2]; rfl
      refine lStoreEf (i := 2) (k := ((j : Int) - 1).toNat) (r := [.int .i64 y.A]) (row := enc (⟨y.B, y.B, y.Latency⟩ : LinkT)) (f := 1) (m := 1) ?_ hrw
      intro w hw
      have hw : Wd Γ1 (drwB b5 a m c (k + 1 + 1) :: .blk b6 (hwC H A1 N1 C1 A2 N2 C2 A3 N3 C3 A4 N4 C4 A5 N5 C5) :: .own (.slice A3 N3 C3) 77 3 ((Y.set (j - 1) ⟨y.B, y.A, y.Latency⟩).map enc) :: .own (.slice A2 N2 C2) 75 5 ((X2).map cC) :: .own (.slice A1 N1 C1) 72 4 ((X1).map enc) :: .own (.slice A4 N4 C4) 79 5 ((H.Mems).map enc) :: .own (.slice A5 N5 C5) 81 5 ((H.Devs).map enc) :: .blk b4 (.cells hwZ.toArray 29) :: S) w := by
        have e : ((Y.set (j - 1) (⟨y.B, y.B, y.Latency⟩ : LinkT)).map enc).set ((j : Int) - 1).toNat (enc (⟨y.B, y.A, y.Latency⟩ : LinkT)) = (Y.set (j - 1) (⟨y.B, y.A, y.Latency⟩ : LinkT)).map enc := by
          rw [hj1, ← List.map_set, List.set_set]
        rw [← e]; exact hw
      repeat (first | refine byW ?_ | (refine byV ?_; intro w hw))
      exact ⟨j - 1, by omega, j - 1, k + 1 + 1, _, rfl, by omega, by simp only [List.length_set]; exact hYl, by omega, by rw [set_canon hyj]; exact hY, ⟨rfl, rfl, rfl, by rw [show ((j - 1 : Nat) : Int) = (j : Int) - 1 from by omega]; rfl, trivial⟩, hw⟩
    · repeat (first | refine byW ?_ | (refine byV ?_; intro w hw))
      exact ⟨j - 1, by omega, j - 1, k + 1 + 1, _, rfl, by omega, hYl, by omega, hY, ⟨rfl, rfl, rfl, by rw [show ((j - 1 : Nat) : Int) = (j : Int) - 1 from by omega]; rfl, trivial⟩, hw⟩
  have hkb3 : k ≤ 80 := by omega
  clear h hj hkb
  revert k X
  intro k3 X3 hX3 hp3 hw hkb3
  have hw : Wd Γ1 (drwB b5 a m c (k3) :: .blk b6 (hwC H A1 N1 C1 A2 N2 C2 A3 N3 C3 A4 N4 C4 A5 N5 C5) :: .own (.slice A4 N4 C4) 79 5 ((H.Mems).map enc) :: .own (.slice A3 N3 C3) 77 3 ((X3).map enc) :: .own (.slice A2 N2 C2) 75 5 ((X2).map cC) :: .own (.slice A1 N1 C1) 72 4 ((X1).map enc) :: .own (.slice A5 N5 C5) 81 5 ((H.Devs).map enc) :: .blk b4 (.cells hwZ.toArray 29) :: S) w := hw.ps [5, 2, 2]
  repeat (first | refine byW ?_ | (refine byV ?_; intro w hw))
  refine W_loop (fun μ ρ w => ∃ (j k : Nat) (X : List MemT), μ = j ∧ j ≤ N4 ∧ X.length = N4 ∧ k + 1 * j ≤ 100 ∧ X.Perm H.Mems ∧ Has ρ [(4, .pointer (some ⟨b4, 0, none⟩)), (5, .pointer (some ⟨b5, 0, none⟩)), (6, .pointer (some ⟨b6, 0, none⟩)), (17, .int .i64 ((j : Int) - 1))] ∧ Wd Γ1 (drwB b5 a m c (k) :: .blk b6 (hwC H A1 N1 C1 A2 N2 C2 A3 N3 C3 A4 N4 C4 A5 N5 C5) :: .own (.slice A4 N4 C4) 79 5 (X.map enc) :: .own (.slice A3 N3 C3) 77 3 ((X3).map enc) :: .own (.slice A2 N2 C2) 75 5 ((X2).map cC) :: .own (.slice A1 N1 C1) 72 4 ((X1).map enc) :: .own (.slice A5 N5 C5) 81 5 ((H.Devs).map enc) :: .blk b4 (.cells hwZ.toArray 29) :: S) w) N4 ⟨N4, k3, H.Mems, rfl, Nat.le_refl _, by omega, by omega, List.Perm.refl _, ⟨rfl, rfl, rfl, rfl, trivial⟩, hw⟩ ?_
  clear hw
  rintro j ρ w ⟨_, k, X, rfl, hj, hX, hkb, hperm, hρ, hw⟩
  rw [hρ.eq]
  clear hρ
  repeat (first | refine byW ?_ | (refine byV ?_; intro w hw))
  refine W_cond rfl (fun h => ?_) (fun h => ?_)
  · have hj2 : 2 ≤ j := by have := of_decide_eq_true h; omega
    clear h
    obtain ⟨hq0, hq1⟩ := nx_range (L := L) (k := k) (n := (j : Int) - 1 + 1) (by omega)
    have hN := Next_any (n := (j : Int) - 1 + 1) (by omega) (by omega) hr hw
    obtain ⟨q, hq⟩ : ∃ q : Nat, nx L k ((j : Int) - 1 + 1) = q := ⟨(nx L k ((j : Int) - 1 + 1)).toNat, by omega⟩
    rw [hq] at hN hq0 hq1
    have hqj : q < j := by omega
    repeat (first | refine byW ?_ | (refine byV ?_; intro w hw))
    refine lCall ?_
    refine hN.mono ?_
    clear hw hN
    rintro r w ⟨rfl, hw⟩
    refine ⟨_, rfl, ?_⟩
    obtain ⟨x, hx⟩ := get_lt (l := X) (k := j - 1) (by omega)
    obtain ⟨y, hy⟩ := get_lt (l := X) (k := q) (by omega)
    have hj1 : ((j : Int) - 1).toNat = j - 1 := by omega
    have hxk : X[((j : Int) - 1).toNat]? = some x := by rw [hj1]; exact hx
    repeat (first | refine byW ?_ | (refine byV ?_; intro w hw))
    refine lAlloc ?_
    intro b9 w hw
    refine lStore ?_
    intro w hw
    have hw : Wd Γ1 (.blk b9 (.cells (enc x).toArray 79) :: drwB b5 a m c (k + 1) :: .blk b6 (hwC H A1 N1 C1 A2 N2 C2 A3 N3 C3 A4 N4 C4 A5 N5 C5) :: .own (.slice A4 N4 C4) 79 5 (X.map enc) :: .own (.slice A3 N3 C3) 77 3 ((X3).map enc) :: .own (.slice A2 N2 C2) 75 5 ((X2).map cC) :: .own (.slice A1 N1 C1) 72 4 ((X1).map enc) :: .own (.slice A5 N5 C5) 81 5 ((H.Devs).map enc) :: .blk b4 (.cells hwZ.toArray 29) :: S) w := hw
    repeat (first | refine byW ?_ | (refine byV ?_; intro w hw))
    refine W_mix1 [] _ [[],[],[],[],[],[],[],[],[],[0]] [[],[0],[],[],[0],[],[0],[0],[0],[0]] hw ?_
    repeat (first | refine mY ?_ | refine mP ?_ | refine mEndAt ?_ | refine mEnd0 ?_ | refine mEnd ?_)
    refine mStoreE (j := 3) (k := ((j : Int) - 1).toNat) (r := enc y) ?_
    repeat (first | refine mY ?_ | refine mP ?_ | refine mEndAt ?_ | refine mEnd0 ?_ | refine mEnd ?_)
    intro w hw
    have hw := Wd.left (S := Res.blk _ _ :: _) hw
    have hw : Wd Γ1 (.blk b9 (.cells (enc x).toArray 79) :: drwB b5 a m c (k + 1) :: .blk b6 (hwC H A1 N1 C1 A2 N2 C2 A3 N3 C3 A4 N4 C4 A5 N5 C5) :: .own (.slice A4 N4 C4) 79 5 ((X.map enc).set ((j : Int) - 1).toNat (enc y)) :: .own (.slice A3 N3 C3) 77 3 ((X3).map enc) :: .own (.slice A2 N2 C2) 75 5 ((X2).map cC) :: .own (.slice A1 N1 C1) 72 4 ((X1).map enc) :: .own (.slice A5 N5 C5) 81 5 ((H.Devs).map enc) :: .blk b4 (.cells hwZ.toArray 29) :: S) w := hw
    repeat (first | refine byW ?_ | (refine byV ?_; intro w hw))
    refine lStoreE (i := 3) (k := q) (r := enc x) ?_
    intro w hw
    have hw : Wd Γ1 (.blk b9 (.cells (enc x).toArray 79) :: drwB b5 a m c (k + 1) :: .blk b6 (hwC H A1 N1 C1 A2 N2 C2 A3 N3 C3 A4 N4 C4 A5 N5 C5) :: .own (.slice A4 N4 C4) 79 5 (((X.map enc).set ((j : Int) - 1).toNat (enc y)).set q (enc x)) :: .own (.slice A3 N3 C3) 77 3 ((X3).map enc) :: .own (.slice A2 N2 C2) 75 5 ((X2).map cC) :: .own (.slice A1 N1 C1) 72 4 ((X1).map enc) :: .own (.slice A5 N5 C5) 81 5 ((H.Devs).map enc) :: .blk b4 (.cells hwZ.toArray 29) :: S) w := hw
    have hw := hw.drop
    rw [hj1, ← List.map_set, ← List.map_set] at hw
    have hw : Wd Γ1 (drwB b5 a m c (k + 1) :: .blk b6 (hwC H A1 N1 C1 A2 N2 C2 A3 N3 C3 A4 N4 C4 A5 N5 C5) :: .own (.slice A4 N4 C4) 79 5 (((X.set (j - 1) y).set q x).map enc) :: .own (.slice A3 N3 C3) 77 3 ((X3).map enc) :: .own (.slice A2 N2 C2) 75 5 ((X2).map cC) :: .own (.slice A1 N1 C1) 72 4 ((X1).map enc) :: .own (.slice A5 N5 C5) 81 5 ((H.Devs).map enc) :: .blk b4 (.cells hwZ.toArray 29) :: S) w := hw
    repeat (first | refine byW ?_ | (refine byV ?_; intro w hw))
    exact ⟨j - 1, by omega, j - 1, k + 1, _, rfl, by omega, by simp only [List.length_set]; exact hX, by omega, (swapQ_perm hx hy).trans hperm, ⟨rfl, rfl, rfl, by rw [show ((j - 1 : Nat) : Int) = (j : Int) - 1 from by omega]; rfl, trivial⟩, hw⟩
  have hkb4 : k ≤ 100 := by omega
  clear h hj hkb
  revert k X
  intro k4 X4 hX4 hp4 hw hkb4
  have hw : Wd Γ1 (drwB b5 a m c (k4) :: .blk b6 (hwC H A1 N1 C1 A2 N2 C2 A3 N3 C3 A4 N4 C4 A5 N5 C5) :: .own (.slice A5 N5 C5) 81 5 ((H.Devs).map enc) :: .own (.slice A4 N4 C4) 79 5 ((X4).map enc) :: .own (.slice A3 N3 C3) 77 3 ((X3).map enc) :: .own (.slice A2 N2 C2) 75 5 ((X2).map cC) :: .own (.slice A1 N1 C1) 72 4 ((X1).map enc) :: .blk b4 (.cells hwZ.toArray 29) :: S) w := hw.ps [6, 2, 2]
  repeat (first | refine byW ?_ | (refine byV ?_; intro w hw))
  refine W_loop (fun μ ρ w => ∃ (j k : Nat) (X : List DevT), μ = j ∧ j ≤ N5 ∧ X.length = N5 ∧ k + 1 * j ≤ 120 ∧ X.Perm H.Devs ∧ Has ρ [(4, .pointer (some ⟨b4, 0, none⟩)), (5, .pointer (some ⟨b5, 0, none⟩)), (6, .pointer (some ⟨b6, 0, none⟩)), (20, .int .i64 ((j : Int) - 1))] ∧ Wd Γ1 (drwB b5 a m c (k) :: .blk b6 (hwC H A1 N1 C1 A2 N2 C2 A3 N3 C3 A4 N4 C4 A5 N5 C5) :: .own (.slice A5 N5 C5) 81 5 (X.map enc) :: .own (.slice A4 N4 C4) 79 5 ((X4).map enc) :: .own (.slice A3 N3 C3) 77 3 ((X3).map enc) :: .own (.slice A2 N2 C2) 75 5 ((X2).map cC) :: .own (.slice A1 N1 C1) 72 4 ((X1).map enc) :: .blk b4 (.cells hwZ.toArray 29) :: S) w) N5 ⟨N5, k4, H.Devs, rfl, Nat.le_refl _, by omega, by omega, List.Perm.refl _, ⟨rfl, rfl, rfl, rfl, trivial⟩, hw⟩ ?_
  clear hw
  rintro j ρ w ⟨_, k, X, rfl, hj, hX, hkb, hperm, hρ, hw⟩
  rw [hρ.eq]
  clear hρ
  repeat (first | refine byW ?_ | (refine byV ?_; intro w hw))
  refine W_cond rfl (fun h => ?_) (fun h => ?_)
  · have hj2 : 2 ≤ j := by have := of_decide_eq_true h; omega
    clear h
    obtain ⟨hq0, hq1⟩ := nx_range (L := L) (k := k) (n := (j : Int) - 1 + 1) (by omega)
    have hN := Next_any (n := (j : Int) - 1 + 1) (by omega) (by omega) hr hw
    obtain ⟨q, hq⟩ : ∃ q : Nat, nx L k ((j : Int) - 1 + 1) = q := ⟨(nx L k ((j : Int) - 1 + 1)).toNat, by omega⟩
    rw [hq] at hN hq0 hq1
    have hqj : q < j := by omega
    repeat (first | refine byW ?_ | (refine byV ?_; intro w hw))
    refine lCall ?_
    refine hN.mono ?_
    clear hw hN
    rintro r w ⟨rfl, hw⟩
    refine ⟨_, rfl, ?_⟩
    obtain ⟨x, hx⟩ := get_lt (l := X) (k := j - 1) (by omega)
    obtain ⟨y, hy⟩ := get_lt (l := X) (k := q) (by omega)
    have hj1 : ((j : Int) - 1).toNat = j - 1 := by omega
    have hxk : X[((j : Int) - 1).toNat]? = some x := by rw [hj1]; exact hx
    repeat (first | refine byW ?_ | (refine byV ?_; intro w hw))
    refine lAlloc ?_
    intro b9 w hw
    refine lStore ?_
    intro w hw
    have hw : Wd Γ1 (.blk b9 (.cells (enc x).toArray 81) :: drwB b5 a m c (k + 1) :: .blk b6 (hwC H A1 N1 C1 A2 N2 C2 A3 N3 C3 A4 N4 C4 A5 N5 C5) :: .own (.slice A5 N5 C5) 81 5 (X.map enc) :: .own (.slice A4 N4 C4) 79 5 ((X4).map enc) :: .own (.slice A3 N3 C3) 77 3 ((X3).map enc) :: .own (.slice A2 N2 C2) 75 5 ((X2).map cC) :: .own (.slice A1 N1 C1) 72 4 ((X1).map enc) :: .blk b4 (.cells hwZ.toArray 29) :: S) w := hw
    repeat (first | refine byW ?_ | (refine byV ?_; intro w hw))
    refine W_mix1 [] _ [[],[],[],[],[],[],[],[],[],[0]] [[],[0],[],[],[0],[],[0],[0],[0],[0]] hw ?_
    repeat (first | refine mY ?_ | refine mP ?_ | refine mEndAt ?_ | refine mEnd0 ?_ | refine mEnd ?_)
    refine mStoreE (j := 3) (k := ((j : Int) - 1).toNat) (r := enc y) ?_
    repeat (first | refine mY ?_ | refine mP ?_ | refine mEndAt ?_ | refine mEnd0 ?_ | refine mEnd ?_)
    intro w hw
    have hw := Wd.left (S := Res.blk _ _ :: _) hw
    have hw : Wd Γ1 (.blk b9 (.cells (enc x).toArray 81) :: drwB b5 a m c (k + 1) :: .blk b6 (hwC H A1 N1 C1 A2 N2 C2 A3 N3 C3 A4 N4 C4 A5 N5 C5) :: .own (.slice A5 N5 C5) 81 5 ((X.map enc).set ((j : Int) - 1).toNat (enc y)) :: .own (.slice A4 N4 C4) 79 5 ((X4).map enc) :: .own (.slice A3 N3 C3) 77 3 ((X3).map enc) :: .own (.slice A2 N2 C2) 75 5 ((X2).map cC) :: .own (.slice A1 N1 C1) 72 4 ((X1).map enc) :: .blk b4 (.cells hwZ.toArray 29) :: S) w := hw
    repeat (first | refine byW ?_ | (refine byV ?_; intro w hw))
    refine lStoreE (i := 3) (k := q) (r := enc x) ?_
    intro w hw
    have hw : Wd Γ1 (.blk b9 (.cells (enc x).toArray 81) :: drwB b5 a m c (k + 1) :: .blk b6 (hwC H A1 N1 C1 A2 N2 C2 A3 N3 C3 A4 N4 C4 A5 N5 C5) :: .own (.slice A5 N5 C5) 81 5 (((X.map enc).set ((j : Int) - 1).toNat (enc y)).set q (enc x)) :: .own (.slice A4 N4 C4) 79 5 ((X4).map enc) :: .own (.slice A3 N3 C3) 77 3 ((X3).map enc) :: .own (.slice A2 N2 C2) 75 5 ((X2).map cC) :: .own (.slice A1 N1 C1) 72 4 ((X1).map enc) :: .blk b4 (.cells hwZ.toArray 29) :: S) w := hw
    have hw := hw.drop
    rw [hj1, ← List.map_set, ← List.map_set] at hw
    have hw : Wd Γ1 (drwB b5 a m c (k + 1) :: .blk b6 (hwC H A1 N1 C1 A2 N2 C2 A3 N3 C3 A4 N4 C4 A5 N5 C5) :: .own (.slice A5 N5 C5) 81 5 (((X.set (j - 1) y).set q x).map enc) :: .own (.slice A4 N4 C4) 79 5 ((X4).map enc) :: .own (.slice A3 N3 C3) 77 3 ((X3).map enc) :: .own (.slice A2 N2 C2) 75 5 ((X2).map cC) :: .own (.slice A1 N1 C1) 72 4 ((X1).map enc) :: .blk b4 (.cells hwZ.toArray 29) :: S) w := hw
    repeat (first | refine byW ?_ | (refine byV ?_; intro w hw))
    exact ⟨j - 1, by omega, j - 1, k + 1, _, rfl, by omega, by simp only [List.length_set]; exact hX, by omega, (swapQ_perm hx hy).trans hperm, ⟨rfl, rfl, rfl, by rw [show ((j - 1 : Nat) : Int) = (j : Int) - 1 from by omega]; rfl, trivial⟩, hw⟩
  have hkb5 : k ≤ 120 := by omega
  clear h hj hkb
  revert k X
  intro k5 X5 hX5 hp5 hw hkb5
  repeat (first | refine byW ?_ | (refine byV ?_; intro w hw))
  refine lStore (i := 7) ?_
  intro w hw
  repeat (first | refine byW ?_ | (refine byV ?_; intro w hw))
  have hcs : ∀ x ∈ X2, COk Γ1 x := fun x hx => hok x (hp2'.subset hx)
  refine ⟨[.agg #[.string H.Name, .slice A1 N1 C1, .slice A2 N2 C2, .slice A3 N3 C3, .slice A4 N4 C4, .slice A5 N5 C5]], ⟨resC (i := 7) hw rfl rfl rfl, trivial⟩, Γ1, _, ⟨H.Name, X1, X2.map CacheH.T, X3, X4, X5⟩, hle, rfl, ⟨rfl, hp1, ?_, hp3, hp4, hp5⟩, ?_⟩
  · rw [← hp2]; exact hp2'.map _
  · have hw := (hw.ds [0, 0, 5]).ps [1, 2, 3, 4]
    exact ⟨_, _, _, _, _, X2, rfl, hcs, rfl, hw⟩
end Go.Proofs.YtnkekcippfdbgaaGreat
end
