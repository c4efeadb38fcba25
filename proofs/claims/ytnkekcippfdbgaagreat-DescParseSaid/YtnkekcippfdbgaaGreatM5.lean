/- Texts of this proof, one behind another. -/
import Derived.Test.YtnkekcippfdbgaaGreatM4
import Derived.Test.YtnkekcippfdbgaaGreatRows
import Derived.ProofKit
import Derived.OpenShut
import Derived.Deep.Slices
import Derived.ReadAgain
import Derived.Test.YtnkekcippfdbgaaGreatM2
import Derived.Test.YtnkekcippfdbgaaGreatM3
import Derived.Laws.MakeOwn
/- The program's parser: Parse, which recovers what the parser throws. -/
section
open Go Mk
namespace Go.Proofs.YtnkekcippfdbgaaGreat
set_option maxHeartbeats 4000000
attribute [local irreducible] Calls scanS hardwareP endP

def maxS0 : Nat := 4611686018427387904
/-- What Parse answers. -/
def parseS (s : ByteArray) : HwT × PosT × Int := if (scanS s).2.2 = 0 then (match hardwareP (scanS s).1 (endP s) with | .ok (H, _) => (H, ⟨0, 0⟩, 0) | .error (p, er) => (default, p, er)) else (default, (scanS s).2.1, (scanS s).2.2)
/-- A description in a variable that a function answers. -/
abbrev hwZ : List Value := [.string ⟨#[]⟩, .slice none 0 0, .slice none 0 0, .slice none 0 0, .slice none 0 0, .slice none 0 0]
section
variable {Γ : Gho} {S : List Res} {w : World} {b2 b3 b4 : Nat} {h0 : Array Value} {p0 : PosT} {e0 : Int}
def outB (b2 b3 b4 : Nat) (h0 : Array Value) (p0 : PosT) (e0 : Int) (S : List Res) : List Res := .blk b2 (.cells h0 29) :: .blk b3 (.cells (enc p0).toArray 31) :: .blk b4 (.cells #[.int .i64 e0] 32) :: S
theorem rec_ret (hw : Wd Γ S w) (args : Array Value) (hn : Nat.ble args.size 22 = true) :
    CallsD Tryz.prog 15 args .returning w fun e u' w' => e = .returned (.tuple #[]) ∧ u' = .returning ∧ Wd Γ S w' := by
  refine callsD_rec Tryz.func15 rfl hn rfl rfl ?_
  refine W_seq ?_
  refine W_region ?_
  refine lY (v := .nilIface) ?_ (hy := y_move rfl)
  refine lY (v := .bool false) ?_ (hy := y_neqNN Tryz.underlying20 rfl)
  refine L_nil ?_
  refine W_cond rfl (fun h => by cases h) (fun _ => ?_)
  refine W_skip ?_
  exact ⟨_, rfl, rfl, rfl, hw⟩
theorem rec_pan {p : PosT} {er : Int} (hz : h0.size = 6) (hw : Wd Γ (outB b2 b3 b4 h0 p0 e0 S) w) :
    CallsD Tryz.prog 15 #[.pointer (some ⟨b2, 0, none⟩), .pointer (some ⟨b3, 0, none⟩), .pointer (some ⟨b4, 0, none⟩)] (.panicking [failE p er]) w fun e u' w' =>
      e = .returned (.tuple #[]) ∧ settle u' = .returning ∧ Wd Γ (outB b2 b3 b4 hwZ.toArray p er S) w' := by
  refine callsD_rec Tryz.func15 rfl rfl rfl rfl ?_
  obtain ⟨c1, c2, c3, c4, c5, c6, rfl⟩ : ∃ c1 c2 c3 c4 c5 c6, h0 = #[c1, c2, c3, c4, c5, c6] := by
    obtain ⟨l⟩ := h0
    match l, hz with
    | [c1, c2, c3, c4, c5, c6], _ => exact ⟨c1, c2, c3, c4, c5, c6, rfl⟩
  unfold outB at hw
  have hv : (recM (.panicking [failE p er])).1 = .iface 47 (.agg #[.int .i64 p.Line, .int .i64 p.Col, .int .i64 er]) := rfl
  rw [hv]
  refine W_seq ?_
  refine W_region ?_
  refine lY (v := .iface 47 (.agg #[.int .i64 p.Line, .int .i64 p.Col, .int .i64 er])) ?_ (hy := y_move rfl)
  refine lY (v := .bool true) ?_ (hy := y_neqIN Tryz.underlying20 rfl)
  refine L_nil ?_
  refine W_cond rfl (fun _ => ?_) (fun h => by cases h)
  refine W_seq ?_
  refine W_region ?_
  refine lY (v := .iface 47 (.agg #[.int .i64 p.Line, .int .i64 p.Col, .int .i64 er])) ?_ (hy := y_move rfl)
  refine lY (v := .tuple #[.agg #[.int .i64 p.Line, .int .i64 p.Col, .int .i64 er], .bool true]) ?_ (hy := y_assertOk Tryz.underlying47 rfl)
  repeat (first | refine byW ?_ | (refine byV ?_; intro w hw))
  refine lAlloc ?_
  intro b5 w hw
  repeat (first | refine byW ?_ | (refine byV ?_; intro w hw))
  refine lStore ?_
  intro w hw
  have hw : Wd Γ (.blk b5 (.cells #[.int .i64 p.Line, .int .i64 p.Col, .int .i64 er] 47) :: .blk b2 (.cells #[c1, c2, c3, c4, c5, c6] 29) :: .blk b3 (.cells (enc p0).toArray 31) :: .blk b4 (.cells #[.int .i64 e0] 32) :: S) w := hw
  repeat (first | refine byW ?_ | (refine byV ?_; intro w hw))
  refine W_cond rfl (fun h => by cases h) (fun _ => ?_)
  repeat (first | refine byW ?_ | (refine byV ?_; intro w hw))
  refine W_mixed [] [fun _ => [.blk b5 _], fun _ => [.blk b2 _], fun _ => [.blk b3 _], fun _ => .blk b4 _ :: S] [[],[],[],[],[],[1],[2],[3]] [[],[],[0],[],[0],[1],[2],[3]] [[],[],[],[]] (by simpa [List.range, List.range.loop, ML] using hw) ?_
  repeat (first | refine mY ?_ | refine mP ?_ | refine mPg ?_)
  refine mStoreC (c := 1) ?_
  refine mStoreC (c := 2) ?_
  refine mStoreC (c := 3) ?_
  refine mEnd0 ?_
  intro w hw
  have hw : Wd Γ ((.blk b5 (.cells #[.int .i64 p.Line, .int .i64 p.Col, .int .i64 er] 47) :: outB b2 b3 b4 hwZ.toArray p er S) ++ []) w := hw
  rw [List.append_nil] at hw
  exact ⟨_, rfl, rfl, rfl, hw.drop⟩

end
theorem resS {P : Program} {Γ : Gho} {S : List Res} {ρ : Fr} {w : World} {t T i b k : Nat} {cs : Array Value} {E : TypeId} {fr : Nat × Nat} {v : Value} [ha : TS P T] (hw : Wd Γ S w) (hi : S[i]? = some (.blk b (.cells cs E fr))) (hx : ρ t = .pointer (some ⟨b, k, none⟩)) (hv : cs[k]? = some v) : ResV P ρ w (.cell t T) v := by
  refine ⟨_, hx, ?_⟩
  have hc := cell_of (hw.at_blk hi) hv
  simp [loadVar, scal_isAgg ha.h, hc, go_sem]
theorem scanN_len {s : ByteArray} : ∀ {f off : Nat} {acc : List Tok}, off ≤ s.size → (scanN s f off acc).1.length ≤ acc.length + (s.size - off)
  | 0, off, acc, h => by simp [scanN]
  | f + 1, off, acc, h => by
    unfold scanN
    split
    · simp
    · rename_i h1
      split
      · have := scanN_len (s := s) (f := f) (off := off + 1) (acc := acc) (by omega)
        omega
      · split
        · have h2 : off ≤ skipN s off ∧ skipN s off ≤ s.size := by
            unfold skipN
            have : (((bts s).drop off).takeWhile fun b => decide ((b.toNat : Int) ≠ 10)).length ≤ ((bts s).drop off).length := (List.takeWhile_sublist _).length_le
            rw [List.length_drop, bts_len] at this
            omega
          have := scanN_len (s := s) (f := f) (off := skipN s off) (acc := acc) h2.2
          omega
        · split
          · rename_i h4
            have hsz : (bSub s off s.size).size = s.size - off := sub_size (Nat.le_refl _)
            obtain ⟨a1, a2, -⟩ := tok_ok (s := bSub s off s.size) (by omega) h4
            have := scanN_len (s := s) (f := f) (off := off + (tokS (bSub s off s.size)).n) (acc := acc ++ [⟨(tokS (bSub s off s.size)).kind, (tokS (bSub s off s.size)).text, (tokS (bSub s off s.size)).value, (posAt s off).Line, (posAt s off).Col⟩]) (by omega)
            simp at this; omega
          · simp
theorem scanS_len {s : ByteArray} : (scanS s).1.length ≤ 65536 := by
  unfold scanS
  split
  · simp
  · have := scanN_len (s := s) (f := s.size + 1) (off := 0) (acc := []) (by omega)
    simp at this; omega
section
variable {Γ : Gho} {S : List Res} {w : World}
set_option maxRecDepth 8000 in
theorem Parse_any (s : ByteArray) (hs : s.size ≤ maxS0) (hw : Wd Γ S w) :
    Calls Tryz.prog 6 #[.string s] w fun r w' => ∃ Γ' u, Γ.le Γ' ∧ r = .returned (.tuple #[u, .agg (enc (parseS s).2.1).toArray, .int .i64 (parseS s).2.2]) ∧ HwOut Γ' (parseS s).1 S u w' := by
  refine calls_of_WX Tryz.func6 rfl rfl ?_
  refine WX_seq (WX_of_W ?_)
  repeat (first | refine byW ?_ | (refine byV ?_; intro w hw))
  refine lAlloc ?_
  intro b2 w hw
  refine lAlloc ?_
  intro b3 w hw
  refine lAlloc ?_
  intro b4 w hw
  refine L_nil ?_
  have hw : Wd Γ (.blk b4 (.cells #[.int .i64 0] 32) :: .blk b3 (.cells (enc (default : PosT)).toArray 31) :: .blk b2 (.cells hwZ.toArray 29) :: S) w := hw
  have hw : Wd Γ (outB b2 b3 b4 hwZ.toArray default 0 S) w := hw.ps [1, 2]
  refine WX_seq (WX_of_W ?_)
  repeat (first | refine byW ?_ | (refine byV ?_; intro w hw))
  refine lCall ?_
  refine (Scan_any Γ _ w s hs hw).mono ?_
  rintro r w ⟨v, rfl, hw⟩
  refine ⟨_, rfl, ?_⟩
  repeat (first | refine byW ?_ | (refine byV ?_; intro w hw))
  unfold outB at hw
  refine lStore (i := 2) ?_
  intro w hw
  refine lStore (i := 3) ?_
  intro w hw
  refine L_nil ?_
  have hw : Wd Γ (.own v 63 5 ((scanS s).1.map enc) :: outB b2 b3 b4 hwZ.toArray (scanS s).2.1 (scanS s).2.2 S) w := hw
  unfold outB at hw
  refine WX_seq (WX_seq (WX_of_W ?_))
  repeat (first | refine byW ?_ | (refine byV ?_; intro w hw))
  refine WX_cond rfl (fun h => ?_) (fun h => ?_)
  · have h : ¬ (scanS s).2.2 = 0 := by simpa using h
    have hP : parseS s = (default, (scanS s).2.1, (scanS s).2.2) := by unfold parseS; rw [if_neg h]
    rw [hP]
    refine WX_of_W ?_
    repeat (first | refine byW ?_ | (refine byV ?_; intro w hw))
    refine W_mixed [] [fun _ => [.own v _ _ _], fun _ => [.blk b2 _], fun _ => [.blk b3 _], fun _ => .blk b4 _ :: S] [[],[],[],[1],[2],[3]] [[],[2],[3],[1],[2],[3]] [[],[],[],[]] (by simpa [List.range, List.range.loop, ML] using hw) ?_
    repeat (first | refine mY ?_ | refine mP ?_ | refine mPg ?_)
    refine mStoreC (c := 1) ?_
    refine mStoreC (c := 2) ?_
    refine mStoreC (c := 3) ?_
    refine mEnd0 ?_
    intro w hw
    have hw : Wd Γ ((.own v 63 5 ((scanS s).1.map enc) :: outB b2 b3 b4 hwZ.toArray (scanS s).2.1 (scanS s).2.2 S) ++ []) w := hw
    rw [List.append_nil] at hw
    repeat (first | refine byW ?_ | (refine byV ?_; intro w hw))
    have hw := hw.drop
    unfold outB at hw
    intro a ha hsz
    exact ⟨_, results_resL (vs := [.agg hwZ.toArray, .agg (enc (scanS s).2.1).toArray, .int .i64 (scanS s).2.2]) (by decide) (by rw [ha]; exact ⟨resC (i := 0) hw rfl rfl rfl, resC (i := 1) hw rfl rfl rfl, resS (i := 2) hw rfl rfl rfl, trivial⟩), Γ, _, Gho.le.refl _, rfl, _, _, _, _, _, [], rfl, by simp, rfl, Wd.addNil (Wd.addNil (Wd.addNil (Wd.addNil (Wd.addNil (hw.ds [0, 0, 0])))))⟩
  have h : (scanS s).2.2 = 0 := by simpa using h
  have hP : parseS s = (match hardwareP (scanS s).1 (endP s) with | .ok (H, _) => (H, ⟨0, 0⟩, 0) | .error (p, er) => (default, p, er)) := by unfold parseS; rw [if_pos h]
  rw [hP]
  clear hP
  generalize (scanS s).2.1 = p1 at *
  generalize (scanS s).2.2 = e1 at *
  have hlen := scanS_len (s := s)
  generalize (scanS s).1 = toks at *
  obtain ⟨at', n, c, rfl, hn, -, -⟩ := hw.own_shape (i := 0) rfl
  simp only [List.length_map] at hn
  obtain ⟨Γ1, hle, ht, hw⟩ := hw.freeze
  refine WX_of_W (W_skip ?_)
  refine WX_seq (WX_regionX ?_)
  refine LD_step ((y_makeFuncL (first := []) (cap := [.tmp 2, .tmp 3, .tmp 4]) (f1 := []) (c1 := [.pointer (some ⟨b2, 0, none⟩), .pointer (some ⟨b3, 0, none⟩), .pointer (some ⟨b4, 0, none⟩)]) EvL.nil (EvL.cons rfl (EvL.cons rfl (EvL.cons rfl EvL.nil)))).step ?_)
  refine LD_deferF ?_
  refine LD_nil ?_
  refine WX_seq (WX_region ?_)
  repeat (first | refine byW ?_ | (refine byV ?_; intro w hw))
  refine lCall ?_
  refine (endOf_any s hs w hw).mono ?_
  rintro r w ⟨rfl, hw⟩
  refine ⟨_, rfl, ?_⟩
  repeat (first | refine byW ?_ | (refine byV ?_; intro w hw))
  refine lBox ?_
  intro bp w hw
  repeat (first | refine byW ?_ | (refine byV ?_; intro w hw))
  have hw : Wd Γ1 (parB bp at' n c 0 (endP s) :: outB b2 b3 b4 hwZ.toArray p1 e1 S) w := hw
  refine WX_seq (WX_region ?_)
  repeat (first | refine byW ?_ | (refine byV ?_; intro w hw))
  refine L_callE ?_
  refine (hardware_any ht (by omega) hw).mono ?_
  rintro r w ⟨Γ2, hle2, hr⟩
  cases hH : hardwareP toks (endP s) with
  | error q =>
    obtain ⟨p, er⟩ := q
    rw [hH] at hr
    obtain ⟨rfl, hw⟩ := hr
    intro a ha hsz
    refine leaves_cons (by simp) rfl ((rec_pan rfl hw).mono ?_)
    rintro e u' w ⟨rfl, hu, hw⟩
    show Leaves _ _ _ _ [] (settle u') w
    rw [hu]
    unfold outB at hw
    exact ⟨_, results_resL (vs := [.agg hwZ.toArray, .agg (enc p).toArray, .int .i64 er]) (by decide) (by rw [ha]; exact ⟨resC (i := 0) hw rfl rfl rfl, resC (i := 1) hw rfl rfl rfl, resS (i := 2) hw rfl rfl rfl, trivial⟩), Γ2, _, hle.trans hle2, rfl, _, _, _, _, _, [], rfl, by simp, rfl, Wd.addNil (Wd.addNil (Wd.addNil (Wd.addNil (Wd.addNil (hw.ds [0, 0, 0])))))⟩
  | ok q =>
    obtain ⟨H, k⟩ := q
    rw [hH] at hr
    obtain ⟨u, rfl, v1, v2, v3, v4, v5, cs, hcs, hok, rfl, hw⟩ := hr
    unfold outB at hw
    obtain ⟨a1, n1, c1, rfl, -, -, -⟩ := hw.own_shape (i := 0) rfl
    obtain ⟨a2, n2, c2, rfl, -, -, -⟩ := hw.own_shape (i := 1) rfl
    obtain ⟨a3, n3, c3, rfl, -, -, -⟩ := hw.own_shape (i := 2) rfl
    obtain ⟨a4, n4, c4, rfl, -, -, -⟩ := hw.own_shape (i := 3) rfl
    obtain ⟨a5, n5, c5, rfl, -, -, -⟩ := hw.own_shape (i := 4) rfl
    show L _ _ _ _ _ _ _
    repeat (first | refine byW ?_ | (refine byV ?_; intro w hw))
    refine lStore (i := 5) ?_
    intro w hw
    refine lStore (i := 6) ?_
    intro w hw
    refine lStore (i := 7) ?_
    intro w hw
    have hw : Wd Γ2 (.own (.slice a1 n1 c1) 72 4 (H.Cores.map enc) :: .own (.slice a2 n2 c2) 75 5 (cs.map cC) :: .own (.slice a3 n3 c3) 77 3 (H.Links.map enc) :: .own (.slice a4 n4 c4) 79 5 (H.Mems.map enc) :: .own (.slice a5 n5 c5) 81 5 (H.Devs.map enc) :: outB b2 b3 b4 #[.string H.Name, .slice a1 n1 c1, .slice a2 n2 c2, .slice a3 n3 c3, .slice a4 n4 c4, .slice a5 n5 c5] default 0 S) w := hw
    refine L_nil ?_
    refine WX_ret ?_
    intro a ha hsz
    refine leaves_cons (by simp) rfl ((rec_ret hw _ rfl).mono ?_)
    rintro e u' w ⟨rfl, rfl, hw⟩
    show Leaves _ _ _ _ [] .returning w
    unfold outB at hw
    exact ⟨_, results_resL (vs := [.agg #[.string H.Name, .slice a1 n1 c1, .slice a2 n2 c2, .slice a3 n3 c3, .slice a4 n4 c4, .slice a5 n5 c5], .agg (enc (default : PosT)).toArray, .int .i64 0]) (by decide) (by rw [ha]; exact ⟨resC (i := 5) hw rfl rfl rfl, resC (i := 6) hw rfl rfl rfl, resS (i := 7) hw rfl rfl rfl, trivial⟩), Γ2, _, hle.trans hle2, rfl, _, _, _, _, _, cs, hcs, hok, rfl, hw.ds [5, 5, 5]⟩
end
end Go.Proofs.YtnkekcippfdbgaaGreat
end
/- The sanity check of the chapter: its examples. -/
section
open Go Mk
namespace Go.Proofs.YtnkekcippfdbgaaGreat
set_option maxHeartbeats 8000000
attribute [local irreducible] Calls

theorem HwOut.freeze {Γ : Gho} {S : List Res} {w : World} {H : HwT} {u : Value} (h : HwOut Γ H S u w) (hsz : HwSz H) : ∃ Γ', Γ.le Γ' ∧ HwR Γ' u H ∧ Wd Γ' S w := by
  obtain ⟨v1, v2, v3, v4, v5, cs, hcs, hok, rfl, hw⟩ := h
  obtain ⟨a1, n1, c1, rfl, -, -, -⟩ := hw.own_shape (i := 0) rfl
  obtain ⟨a2, n2, c2, rfl, -, -, -⟩ := hw.own_shape (i := 1) rfl
  obtain ⟨a3, n3, c3, rfl, -, -, -⟩ := hw.own_shape (i := 2) rfl
  obtain ⟨a4, n4, c4, rfl, -, -, -⟩ := hw.own_shape (i := 3) rfl
  obtain ⟨a5, n5, c5, rfl, -, -, -⟩ := hw.own_shape (i := 4) rfl
  obtain ⟨Γ1, e1, r1, hw⟩ := hw.freeze
  obtain ⟨Γ2, e2, r2, hw⟩ := hw.freeze
  obtain ⟨Γ3, e3, r3, hw⟩ := hw.freeze
  obtain ⟨Γ4, e4, r4, hw⟩ := hw.freeze
  obtain ⟨Γ5, e5, r5, hw⟩ := hw.freeze
  have f4 := e5
  have f3 := e4.trans f4
  have f2 := e3.trans f3
  have f1 := e2.trans f2
  exact ⟨Γ5, e1.trans f1, ⟨_, _, _, _, _, _, _, _, _, _, _, _, _, _, _, cs, rfl, hcs, fun c hc => (hok c hc).mono (e1.trans f1), hsz, r1.mono f1, r2.mono f2, r3.mono f3, r4.mono f4, r5⟩, hw⟩
def text1 : ByteArray := ⟨#[109, 97, 99, 104, 105, 110, 101, 32, 34, 109, 34, 32, 123, 32, 99, 111, 114, 101, 32, 48, 32, 123, 32, 119, 105, 100, 116, 104, 32, 51, 50, 59, 32, 110, 111, 100, 101, 32, 48, 59, 32, 115, 112, 101, 101, 100, 32, 49, 59, 32, 125, 32, 125]⟩
def text2 : ByteArray := ⟨#[109, 97, 99, 104, 105, 110, 101, 32, 34, 109, 34, 32, 123, 32, 99, 111, 114, 101, 32, 48, 32, 123, 32, 119, 105, 100, 116, 104, 32, 51, 51, 59, 32, 110, 111, 100, 101, 32, 48, 59, 32, 115, 112, 101, 101, 100, 32, 49, 59, 32, 125, 32, 125]⟩
def hw1 : HwT := ⟨⟨#[109]⟩, [⟨0, 32, 0, 1⟩], [], [], [], []⟩
def hw2 : HwT := ⟨⟨#[109]⟩, [⟨0, 33, 0, 1⟩], [], [], [], []⟩
theorem parse1 : parseS text1 = (hw1, ⟨0, 0⟩, 0) := by decide +kernel
theorem parse2 : parseS text2 = (hw2, ⟨0, 0⟩, 0) := by decide +kernel
theorem valid1 : validS hw1 = 0 := by
  have h1 : namesB hw1 = true := by decide +kernel
  have h2 : countsB hw1 = true := by decide +kernel
  have h3 : (coresRB hw1 && regionsRB hw1) = true := by decide +kernel
  have h4 : alignRB hw1 = true := by decide +kernel
  have h5 : uniqueB hw1 = true := by decide +kernel
  have h6 : knownB hw1 = true := by decide +kernel
  have h7 : hierB hw1 = true := decP_t ⟨fun c hc => (by cases hc), fun i k a b ha => (by cases ha)⟩
  have h8 : disjB hw1 = true := decP_t fun i k a b _ ha => by simp [hw1, regs] at ha
  have h9 : connB hw1 = true := decP_t fun n hn => by
    simp [hw1, usedN] at hn; subst hn; exact .refl
  simp [validS, h1, h2, h3, h4, h5, h6, h7, h8, h9]
theorem valid2 : validS hw2 = 6 := by
  have h1 : namesB hw2 = true := by decide +kernel
  have h2 : countsB hw2 = true := by decide +kernel
  have h3 : (coresRB hw2 && regionsRB hw2) = false := by decide +kernel
  simp [validS, h1, h2, h3]
theorem sz1 : HwSz hw1 := by unfold HwSz maxS; decide
theorem sz2 : HwSz hw2 := by unfold HwSz maxS; decide
theorem Parse_known {Γ : Gho} {S : List Res} {w : World} {s : ByteArray} {H : HwT} {p : PosT} {er : Int} (hs : s.size ≤ maxS0) (hp : parseS s = (H, p, er)) (hsz : HwSz H) (hw : Wd Γ S w) :
    Calls Tryz.prog 6 #[.string s] w fun r w' => ∃ Γ' u, Γ.le Γ' ∧ r = .returned (.tuple #[u, .agg #[.int .i64 p.Line, .int .i64 p.Col], .int .i64 er]) ∧ HwR Γ' u H ∧ Wd Γ' S w' := by
  refine (Parse_any s hs hw).mono ?_
  rintro r w ⟨Γ1, u, hle1, rfl, ho⟩
  rw [hp] at ho ⊢
  obtain ⟨Γ2, hle2, hR, hw⟩ := ho.freeze hsz
  exact ⟨Γ2, u, hle1.trans hle2, rfl, hR, hw⟩
theorem awake_any {Γ : Gho} {S : List Res} {w : World} (hw : Wd Γ S w) : Calls Tryz.prog 5 #[] w fun e w' => ∃ Γ', Γ.le Γ' ∧ e = .returned (.bool true) ∧ Wd Γ' S w' := by
  refine calls_of_W Tryz.func5 rfl rfl ?_
  repeat (first | refine byW ?_ | (refine byV ?_; intro w hw))
  refine lCall ?_
  refine (Parse_known (by decide) parse1 sz1 hw).mono ?_
  rintro r w ⟨Γ2, u, hle2, rfl, hR1, hw⟩
  refine ⟨_, rfl, ?_⟩
  obtain ⟨a1, n1, c1, a2, n2, c2, a3, n3, c3, a4, n4, c4, a5, n5, c5, cs, rfl, -, -, -, r1, -⟩ := hR1.h
  repeat (first | refine byW ?_ | (refine byV ?_; intro w hw))
  refine lAlloc ?_
  intro b1 w hw
  refine lAlloc ?_
  intro b2 w hw
  refine lStore ?_
  intro w hw
  refine lStore ?_
  intro w hw
  repeat (first | refine byW ?_ | (refine byV ?_; intro w hw))
  have hw : Wd Γ2 (.blk b2 (.cells (enc (⟨0, 0⟩ : PosT)).toArray 31) :: .blk b1 (hwC hw1 a1 n1 c1 a2 n2 c2 a3 n3 c3 a4 n4 c4 a5 n5 c5) :: S) w := hw
  refine lCall ?_
  refine (Parse_known (by decide) parse2 sz2 hw).mono ?_
  rintro r w ⟨Γ4, u2, hle4, rfl, hR2, hw⟩
  refine ⟨_, rfl, ?_⟩
  obtain ⟨A1, N1, C1, A2, N2, C2, A3, N3, C3, A4, N4, C4, A5, N5, C5, cs2, rfl, -⟩ := hR2.h
  haveI := hR1.mono hle4
  obtain ⟨hn1, -, -⟩ := rep_facts r1
  repeat (first | refine byW ?_ | (refine byV ?_; intro w hw))
  refine lAlloc ?_
  intro b4 w hw
  refine lAlloc ?_
  intro b5 w hw
  refine lStore ?_
  intro w hw
  refine lStore ?_
  intro w hw
  have hw : Wd Γ4 (.blk b5 (.cells (enc (⟨0, 0⟩ : PosT)).toArray 31) :: .blk b4 (hwC hw2 A1 N1 C1 A2 N2 C2 A3 N3 C3 A4 N4 C4 A5 N5 C5) :: .blk b2 (.cells (enc (⟨0, 0⟩ : PosT)).toArray 31) :: .blk b1 (hwC hw1 a1 n1 c1 a2 n2 c2 a3 n3 c3 a4 n4 c4 a5 n5 c5) :: S) w := hw
  repeat (first | refine byW ?_ | (refine byV ?_; intro w hw))
  refine ⟨_, rfl, Γ4, hle2.trans hle4, ret_b rfl ?_, hw.ds [0, 0, 0, 0]⟩
  have e1 : ¬ hw1 = hw2 := by decide +kernel
  have e2 : (n1 : Int) = 1 := by simp [hw1] at hn1; omega
  simp [valid1, valid2, e1, e2]
end Go.Proofs.YtnkekcippfdbgaaGreat
end
/- From a walk in these words to the given form of a statement; given lists of numbers, as the walk reads them. -/
section
open Go Mk
namespace Go.Proofs.YtnkekcippfdbgaaGreat
open Go.ChangeShapes Go.WideShapes Go.ChangeAt Go.RowKit

theorem own_knob : ownKnob Tryz.prog.godebug = none := by kernel_rfl
theorem keptBut_wd {W W' : World} {S : List Res} (h : Wd (allG W) S W') (may : MemPlace → Prop) : W.keptBut W' may := by
  refine ⟨h.os, h.out, fun i hi => ?_⟩
  have h1 : W.heap[i]? = some W.heap[i] := Array.getElem?_eq_getElem hi
  have h2 := h.imm i W.heap[i] h1
  rw [h1, h2]
  cases W.heap[i] <;> simp
/-- The arguments read as before; what is answered is true. -/
theorem post_wd {H : Type} {enc : TypeId × Value → H} {f : Func} {s : ChangeSpec} {W W' : World} {S : List Res} {args : Array Value} {v : Value} {ds gs : List (DataW H)} {before pa pv : List MemPlace} {apart : Bool}
    (hW : DataW.Whole enc Tryz.prog f.params.toList s.vars apart W args.toList ds gs before)
    (hres : ∀ (b : Nat) (sp : Nat → Bool) (hd : Bool), DataW.TrodAll enc Tryz.prog W' b sp hd f.resultTypes.toList (v.resultList f.resultTypes.size) (s.fn H (ds ++ gs)).results [])
    (hargs : ∀ sp : Nat → Bool, (∀ p ∈ before, sp p.block = true) → DataW.TrodAll enc Tryz.prog W' 0 sp true f.params.toList args.toList (s.fn H (ds ++ gs)).args pa)
    (hvars : ∀ sp : Nat → Bool, (∀ p ∈ before, sp p.block = true) → DataW.TrodVars enc Tryz.prog W' sp s.vars (s.fn H (ds ++ gs)).vars pv)
    (hps : before = pa ++ pv) (hk : Wd (allG W) S W') : s.post enc Tryz.prog f apart true false false W args v W' := by
  have hold : ∀ p ∈ before, (fun b => decide (b < W.heap.size)) p.block = true := fun p hp => by simpa using hW.lt p hp
  exact ⟨ds, gs, before, [], pa, pv, hW, hres _ _ _, hargs _ hold, hvars _ hold, keptBut_wd hk _, fun h => by cases h⟩
theorem wd_back {Γ Γ' : Gho} {w : World} (hle : Γ.le Γ') (h : Wd Γ' [] w) : Wd Γ [] w := by
  obtain ⟨h1, h2, h3, h4, h5, -⟩ := h
  exact ⟨h1.trans hle.os, h2.trans hle.tape, h3.trans hle.out, by rw [← hle.dr]; exact h4, fun b o hb => h5 b o (hle.imm b o hb), [], trivial, by simp, by simp⟩
section
variable {H : Type} {en : TypeId × Value → H} {W W' : World} {base : Nat} {sp : Nat → Bool} {held : Bool} {S : List Res}
theorem flat_inv {sz : Nat} : ∀ {rows : List (List Value)}, (∀ r ∈ rows, r.length = sz) → ∀ {j : Nat} {u : Value}, rows.flatten[j]? = some u → ∃ i r row, rows[i]? = some row ∧ row[r]? = some u ∧ j = i * sz + r
  | [], _, j, u, h => by simp at h
  | a :: rows, hl, j, u, h => by
    rw [List.flatten_cons] at h
    by_cases hj : j < a.length
    · rw [List.getElem?_append_left hj] at h
      exact ⟨0, j, a, rfl, h, by omega⟩
    · rw [List.getElem?_append_right (by omega)] at h
      obtain ⟨i, r, row, h1, h2, h3⟩ := flat_inv (fun r hr => hl r (List.mem_cons_of_mem _ hr)) h
      have ha := hl a (List.mem_cons_self ..)
      refine ⟨i + 1, r, row, by simpa using h1, h2, ?_⟩
      rw [Nat.add_mul, Nat.one_mul]; omega
theorem read_ints {n : Nat} {v : Value} {y : DataW H × List MemPlace} (h : DataW.trod en Tryz.prog W base sp held n 37 [v] = some y) : ∃ xs : List Int, RepS (allG W) v 1 (intRows xs) := by
  have hc : Tryz.prog.cellsOf 3 = 1 := by kernel_rfl
  rcases Deep.open_slice Tryz.underlying37 h with ⟨h0, -⟩ | ⟨a, len, cap, m, k, D, Pl, h0, -, hlc, hcm, hm, -, hel⟩
  · cases h0
    refine ⟨[], ?_⟩
    unfold RepS intRows
    exact ⟨by simp, none, 0, 0, rfl, rfl, by omega, Nat.zero_le _, fun hh => by simp at hh⟩
  · cases h0
    have hlm : len ≤ m := by rw [hm]; split <;> omega
    have hx : ∀ i, i < len → ∃ s : Int, ∀ j u, [Value.int .i64 s][j]? = some u → W.cell? (a.add (i * 1 + j)) = some u := fun i hi => by
      obtain ⟨cs', h1, h2⟩ := hel i (by omega)
      rw [hc] at h1
      obtain ⟨-, hl, hat⟩ := World.cells?_some h1
      obtain ⟨s, rfl, -⟩ := DataW.trod_int Tryz.underlying3 h2
      refine ⟨s, fun j u hu => ?_⟩
      have hj : j < 1 := by rw [← hl]; exact (List.getElem?_eq_some_iff.1 hu).1
      have := hat j hj
      rw [hu, Go.Deep.add_add] at this
      exact this
    have : ∃ f : Nat → Int, ∀ i, i < len → ∀ j u, [Value.int .i64 (f i)][j]? = some u → W.cell? (a.add (i * 1 + j)) = some u := by
      have dflt : Int := 0
      refine ⟨fun i => if hi : i < len then (hx i hi).choose else dflt, fun i hi => ?_⟩
      simp only [hi, dif_pos]
      exact (hx i hi).choose_spec
    obtain ⟨f, hf⟩ := this
    refine ⟨(List.range len).map f, ?_⟩
    unfold RepS intRows
    refine ⟨fun r hr => ?_, some a, len, cap, rfl, by simp, hlc, hcm, fun hpos => ?_⟩
    · obtain ⟨s, -, rfl⟩ := List.mem_map.1 hr
      rfl
    · have hpos : 0 < len := by simpa using hpos
      have h00 := hf 0 hpos 0 (.int .i64 (f 0)) rfl
      obtain ⟨g, o, spt⟩ := a
      have h01 : W.cell? ⟨g, o + 0, spt⟩ = some (.int .i64 (f 0)) := h00
      unfold World.cell? at h01
      cases hg : W.heap[g]? with
      | none => rw [hg] at h01; simp at h01
      | some ob =>
        rw [hg] at h01
        cases ob with
        | cells cur e fr =>
          cases spt with
          | some q => simp at h01
          | none =>
            refine ⟨g, o, cur, e, fr, rfl, hg, fun j u hj => ?_⟩
            obtain ⟨i, r, row, h1, h2, h3⟩ := flat_inv (sz := 1) (rows := ((List.range len).map f).map fun x => [Value.int .i64 x]) (fun r hr => by
              obtain ⟨s, -, rfl⟩ := List.mem_map.1 hr
              rfl) hj
            rw [List.getElem?_map, List.getElem?_map] at h1
            have hi : i < len := by
              by_cases hi : i < len
              · exact hi
              · rw [List.getElem?_eq_none (by simpa using hi)] at h1; simp at h1
            rw [List.getElem?_range hi] at h1
            simp only [Option.map_some, Option.some.injEq] at h1
            subst h1
            have h4 : W.cell? ⟨g, o + (i * 1 + r), none⟩ = some u := by
              have h5 := hf i hi r u h2
              rwa [show Addr.add ⟨g, o, none⟩ (i * 1 + r) = ⟨g, o + (i * 1 + r), none⟩ from by
                unfold Addr.add
                by_cases h0 : i * 1 + r = 0
                · rw [if_pos h0, h0]; rfl
                · rw [if_neg h0]] at h5
            unfold World.cell? at h4
            rw [hg] at h4
            rw [h3]
            simpa using h4
        | _ => simp at h01
theorem carry_all (hk : Wd (allG W) S W') : ∀ {ts : List TypeId} {vs : List Value} {ds : List (DataW H)} {ps : List MemPlace}, DataW.TrodAll en Tryz.prog W base sp held ts vs ds ps → (∀ p ∈ ps, p.block < W.heap.size) → DataW.TrodAll en Tryz.prog W' base sp held ts vs ds ps
  | [], [], [], _, h, _ => h
  | _ :: _, _ :: _, _ :: _, _, ⟨p, q, ⟨n, h1⟩, h2, e⟩, hs => ⟨p, q, ⟨n, DataW.trod_carry n _ _ _ h1 fun x hx => by
      have hb := hs x (by rw [e]; exact List.mem_append_left _ hx)
      cases x with
      | cell b off =>
        have h3 : W'.heap[b]? = W.heap[b]? := by
          have h4 : W.heap[b]? = some (W.heap[b]'hb) := Array.getElem?_eq_getElem hb
          rw [h4]; exact hk.imm b _ h4
        show W'.cell? _ = W.cell? _
        unfold World.cell?
        rw [h3]
      | map b =>
        have h4 : W.heap[b]? = some (W.heap[b]'hb) := Array.getElem?_eq_getElem hb
        show W'.heap[b]? = W.heap[b]?
        rw [h4]; exact hk.imm b _ h4⟩, carry_all hk h2 (fun x hx => hs x (by rw [e]; exact List.mem_append_right _ hx)), e⟩
end
theorem own_kids : Kids Tryz.prog (· < Tryz.prog.types.size) := kids_rows (by kernel_rfl) (by kernel_rfl)
theorem own_full : ∀ t e, t < Tryz.prog.types.size → Tryz.prog.underlying t = some (.slice e) → 0 < Tryz.prog.cellsOf e := slices_full_of _ (by kernel_rfl)
end Go.Proofs.YtnkekcippfdbgaaGreat
end
/- A field of an element of an owned slice is written. -/
section
open Go
namespace Mk
section
variable {P : Program} {n : Nat} {opa : Array Oper} {Γ : Gho} {S : List Res} {QQ : Exit → Fr → World → Prop} {K : Value → World → Prop} {ρ : Fr} {w : World} {rest : List Oper} {sz : Nat} {rows : List (List Value)}
variable {d : Option Tmp} {T U ty : TypeId} {pos : String} {es : Array Edge} {g : Option (Nat × Bool)} {x y z : Operand} {v : Value}
theorem field_set {L r : List Value} {p f m sz N : Nat} (hp : p + sz ≤ N) (hN : N ≤ L.length) (hr : r.length = m) (hfm : f + m ≤ sz) :
    (L.take (p + f) ++ r ++ L.drop (p + f + r.length)).take N = (L.take N).take p ++ (((L.drop p).take sz).take f ++ r ++ ((L.drop p).take sz).drop (f + m)) ++ (L.take N).drop (p + sz) := by
  refine List.ext_getElem? fun i => ?_
  simp only [List.getElem?_append, List.getElem?_take, List.getElem?_drop, List.length_append, List.length_take, List.length_drop, hr]
  repeat' split
  all_goals first | omega | rfl | (congr 1; omega) | skip
/-- Some cells of an element of an owned slice are written. -/
theorem s_storeEf {E k f m i n c : Nat} {a : Option Addr} {v : Value} {r row : List Value} (hn : (P.info? T).map (·.size) = some m) (hw : Wd Γ S w) (hx : ev ρ x = .pointer (some ⟨aB a, aO a + k * sz + f, none⟩)) (hy : ev ρ y = v) (hv : v.cells.toList = r) (hl : r.length = m)
    (h1 : r.all (·.oneCell') = true) (hi : S[i]? = some (.own (.slice a n c) E sz rows)) (hkl : k < n) (hrow : rows[k]? = some row) (hfm : f + m ≤ sz) (hk : ∀ w', Wd Γ (S.set i (.own (.slice a n c) E sz (rows.set k (row.take f ++ r ++ row.drop (f + m))))) w' → K undef w') : Step P ⟨d, .store T x y, ty, pos, es, g⟩ ρ w K := by
  obtain ⟨bs0, hr0⟩ := hw.own_holds hi
  unfold Res.own at hr0
  obtain ⟨q0, a', n', c', e1, e2, e3, e4, e5⟩ := hr0
  cases e1
  rcases e5 with ⟨hc, _⟩ | ⟨b, cur, g1, g2, g3, g4, g5⟩
  · omega
  · subst g1
    have hrl : row.length = sz := q0 row (List.mem_of_getElem? hrow)
    have hnew : (row.take f ++ r ++ row.drop (f + m)).length = sz := by simp [hl, hrl]; omega
    have hx' : ev ρ x = .pointer (some ⟨b, k * sz + f, none⟩) := by rw [hx]; simp [aB, aO]
    have hks : k * sz + sz ≤ cur.size := by
      rw [g4, show k * sz + sz = (k + 1) * sz from by rw [Nat.add_mul]; omega]; exact Nat.mul_le_mul_right _ (by omega)
    have hfit : k * sz + f + 0 + r.length ≤ cur.size := by rw [hl]; omega
    have hst := run_storeCells_at P b (k * sz + f) E r 0 cur w g3 hfit (fun u hu => (List.all_eq_true.1 h1) u hu)
    simp only [Nat.add_zero] at hst
    have hsz : v.cells.size = m := by rw [← hl, ← hv]; simp
    have hr : (execOp (ev ρ) ⟨d, .store T x y, ty, pos, es, g⟩).run P w = .ok .skip (w.setRow b (cur.toList.take (k * sz + f) ++ r ++ cur.toList.drop (k * sz + f + r.length)).toArray) := by
      cases hq : P.info? T with
      | none => simp [hq] at hn
      | some q =>
        have hs : q.size = m := by simpa [hq] using hn
        have hz : (Go.sizeOf T).run P w = .ok m w := by simp [Go.sizeOf, typeInfo, hq, hs]
        have hsv : (storeVar T ⟨b, k * sz + f, none⟩ v).run P w = .ok () (w.setRow b (cur.toList.take (k * sz + f) ++ r ++ cur.toList.drop (k * sz + f + r.length)).toArray) := by
          unfold storeVar
          rw [Sem.run_bind, hz]
          simp only [Result.andThen_ok, hsz, ne_eq, not_true_eq_false, if_false, hv]
          exact hst
        simp only [execOp, hx', hy, Instr.storeAt, Instr.sureAddr, Sem.run_bind, Sem.run_pure, Result.andThen_ok, hsv]
    have hfin := hk _ (hw.upd hi (w' := w.setRow b (cur.toList.take (k * sz + f) ++ r ++ cur.toList.drop (k * sz + f + r.length)).toArray) ⟨rfl, rfl, rfl, (by first | exact Nat.le_refl _ | exact Nat.le_succ _), by simp⟩ fun bs hr' hnd hlt => by
      unfold Res.own at hr' ⊢
      obtain ⟨q0', a2, n2, c2, f1, f2, f3, f4, f5⟩ := hr'
      cases f1
      rcases f5 with ⟨hc, _⟩ | ⟨b2, cur2, k1, k2, k3, k4, k5⟩
      · omega
      · cases k1
        rw [show hp w b = some (.cells cur E (0, 0)) from g3] at k3; cases k3
        refine ⟨bs, ⟨?_, _, _, _, rfl, by simpa using f2, f3, f4, .inr ⟨b, _, rfl, k2, setRow_heap w b cur _ E _ g3, ?_, ?_⟩⟩, hnd, fun x hx => ⟨by have := hlt x hx; simpa using this, .inl hx⟩, fun k' _ hne => setRow_other w b k' _ (fun e => hne (by simp [k2, e]))⟩
        · intro r' hr'
          rcases List.mem_or_eq_of_mem_set hr' with h | rfl
          · exact q0 r' h
          · exact hnew
        · simp only [List.size_toArray, List.length_append, List.length_take, List.length_drop, Array.length_toList]; omega
        · have hkn : k * sz + sz ≤ n * sz := by rw [show k * sz + sz = (k + 1) * sz from by rw [Nat.add_mul]; omega]; exact Nat.mul_le_mul_right _ (by omega)
          have hns : n * sz ≤ cur.toList.length := by rw [Array.length_toList, g4]; exact Nat.mul_le_mul_right _ e3
          have e0 := rows_set_flatten (k := k) (r := row) q0 hrl (by omega)
          have e9 : rows.set k row = rows := by
            refine List.ext_getElem? fun i => ?_
            rw [List.getElem?_set]
            split
            · rename_i h; subst h; rw [hrow]; simp; omega
            · rfl
          rw [e9] at e0
          rw [rows_set_flatten q0 hnew (by omega), ← g5]
          have hrw : row = (cur.toList.drop (k * sz)).take sz := by
            have : row = ((cur.toList.take (n * sz)).drop (k * sz)).take sz := by
              rw [g5, e0, List.append_assoc, List.drop_append_of_le_length (by rw [List.length_take, ← g5, List.length_take]; omega)]
              have : ((rows.flatten.take (k * sz)).drop (k * sz)) = [] := by rw [List.drop_eq_nil_iff, List.length_take]; omega
              rw [this, List.nil_append, List.take_append_of_le_length (by omega), List.take_of_length_le (by omega)]
            rw [this, List.drop_take, List.take_take, Nat.min_eq_left (by omega)]
          rw [hrw]
          exact field_set hkn hns hl hfm
        )
    unfold Step; rw [hr]; exact hfin

theorem lStoreEf {E k f i m mm c sz : Nat} {a : Option Addr} {r row : List Value} {rows : List (List Value)} [hn : TSz P T m] (h : ∀ w', Wd Γ (S.set i (.own (.slice a mm c) E sz (rows.set k (row.take f ++ r ++ row.drop (f + m))))) w' → L P n opa QQ rest ρ w') (hrow : rows[k]? = some row) (hw : Wd Γ S w := by exact hw) (hx : ev ρ x = .pointer (some ⟨aB a, aO a + k * sz + f, none⟩) := by exact rfl)
    (hy : ev ρ y = v := by exact byMV) (hv : v.cells.toList = r := by exact rfl) (hl : r.length = m := by exact rfl) (h1 : r.all (·.oneCell') = true := by exact rfl) (hi : S[i]? = some (.own (.slice a mm c) E sz rows) := by exact byIX) (hk : k < mm := by omega) (hfm : f + m ≤ sz := by omega) :
    L P n opa QQ (⟨none, .store T x y, ty, pos, es, none⟩ :: rest) ρ w := L_step rfl rfl (s_storeEf hn.h hw hx hy hv hl h1 hi hk hrow hfm h)
end
end Mk
end
/- Drawn regions: steps that change one or two cells; cells of which only a relation is known. -/
section
open Go
namespace Mk
attribute [local irreducible] Calls
theorem W_cutB {P : Program} {n id : Nat} {c : Code} {K : Fr → World → Prop} {Q : Exit → Fr → World → Prop} {ρ : Fr} {w : World} (I : Fr → World → Prop) (h1 : W P n c (InBl id (Then I Q)) ρ w) (h2 : ∀ ρ w, I ρ w → K ρ w) : W P n c (InBl id (Then K Q)) ρ w :=
  h1.mono fun e ρ w h => by
    cases e with
    | normal => exact h2 ρ w h
    | exit i =>
      simp only [InBl] at h ⊢
      split <;> rename_i hi <;> simp only [hi, if_true, if_false] at h
      · exact h2 ρ w h
      · exact h
    | _ => exact h
theorem W_cutT {P : Program} {n : Nat} {c : Code} {K : Fr → World → Prop} {Q : Exit → Fr → World → Prop} {ρ : Fr} {w : World} (I : Fr → World → Prop) (h1 : W P n c (Then I Q) ρ w) (h2 : ∀ ρ w, I ρ w → K ρ w) : W P n c (Then K Q) ρ w :=
  h1.mono fun e ρ w h => by
    cases e with
    | normal => exact h2 ρ w h
    | _ => exact h
section
variable {P : Program} {n : Nat} {ops : List Oper} {Γ : Gho} {K : List Res} {wr tc stab : List (List Nat)} {Q : Fr → World → Prop} {i : Nat} {rest : List Oper} {ρ : Fr} {w : World} {M : Nat → Fr → List Res} {v : Value} {T T' : Type} {o : Oper}
variable {ty : TypeId} {pos : String} {es : Array Edge}
theorem ml1 {a b d : Fr → List Res} : ML [a, b, d] 1 = b := rfl
theorem ml2 {a b d : Fr → List Res} : ML [a, b, d] 2 = d := rfl
theorem exC_open {φ : T → Fr → Prop} {R : T → List Res} {g : Fr} {Z : List Res} (h : Wd Γ (exC φ R g ++ Z) w) : ∃ t, φ t g ∧ Wd Γ (R t ++ Z) w := by
  obtain ⟨⟨t, ht⟩, hw⟩ := Wd.openEx (S := Z) h
  exact ⟨t, ht, hw⟩
theorem exC_mk {φ : T → Fr → Prop} {R : T → List Res} {g : Fr} {Z : List Res} (t : T) (ht : φ t g) (h : Wd Γ (R t ++ Z) w) : Wd Γ (exC φ R g ++ Z) w :=
  Wd.closeEx (X := fun p : {t : T // φ t g} => R p.1) ⟨t, ht⟩ h
theorem mM2 {c c2 : Nat} (m m2 : Fr → List Res) (hs : ∀ Y w g, Wd Γ (K ++ (cellsAt tc stab i M g ++ Y)) w → Step P o (ovr stab.flatten g ρ) w fun u w' => Wd Γ (K ++ (cellsAt tc stab i (setC (setC M c m) c2 m2) (putO g o.dst u) ++ Y)) w' ∧ (freeD stab o.dst = false → u = v))
    (h : MSw (mV P n ops Γ K wr tc stab) Q (i + 1) rest ⟨putO ρ o.dst v, setC (setC M c m) c2 m2⟩) (hw0 : wr.getD i [] = [c, c2]) (hg : o.guard = none) : MSw (mV P n ops Γ K wr tc stab) Q i (o :: rest) ⟨ρ, M⟩ := by
  have hn : Mt.nxt (mV P n ops Γ K wr tc stab) i ⟨ρ, M⟩ ⟨v, setC (setC M c m) c2 m2⟩ = setC (setC M c m) c2 m2 := by
    funext y
    simp only [Mt.nxt, MEnv.w, hw0]
    unfold setC
    by_cases h1 : y = c <;> by_cases h2 : y = c2 <;> simp [h1, h2]
  refine ⟨⟨v, setC (setC M c m) c2 m2⟩, ⟨fun Γ' Y w g hr hw => ?_⟩, ?_⟩
  · have hΓ : Γ' = Γ := hr
    subst hΓ
    rw [hn]
    refine ⟨fun _ => (hs Y w g hw).mono fun u w' ⟨h1, h2⟩ => ⟨Γ', rfl, h1, h2⟩, fun hf => ?_⟩
    rw [wantF_none hg] at hf; cases hf
  · simp only [Mt.next, hn]; exact h
/-- A step that changes the cell c. -/
theorem mS {c : Nat} {F : Fr → List Res} (F' : Fr → List Res)
    (hs : ∀ g w Y, Wd Γ (F (ovr (stab.getD c []) g noFr) ++ (K ++ Y)) w → Step P o (ovr stab.flatten g ρ) w fun u w' => (freeD stab o.dst = false → u = v) ∧ Wd Γ (F' (ovr (stab.getD c []) (putO g o.dst u) noFr) ++ (K ++ Y)) w')
    (h : MSw (mV P n ops Γ K wr tc stab) Q (i + 1) rest ⟨putO ρ o.dst v, setC M c F'⟩) (hM : M c = F := by first | exact setC_self | exact ml1 | exact ml2 | exact ((setC_other (by decide)).trans setC_self) | exact ((setC_other (by decide)).trans ml2) | exact ((setC_other (by decide)).trans ((setC_other (by decide)).trans ml2)) | exact ((setC_other (by decide)).trans ((setC_other (by decide)).trans ((setC_other (by decide)).trans ml2))) | exact ((setC_other (by decide)).trans ((setC_other (by decide)).trans setC_self)) | exact rfl) (hw0 : wr.getD i [] = [c] := by exact rfl) (ht : tc.getD i [] = [c] := by exact rfl) (hg : o.guard = none := by exact rfl) :
    MSw (mV P n ops Γ K wr tc stab) Q i (o :: rest) ⟨ρ, M⟩ := by
  refine mM _ (fun Y w g hw => ?_) h hw0 hg
  rw [cells1 ht, hM] at hw
  refine (hs g w Y hw.swapApp).mono ?_
  rintro u w' ⟨h2, h3⟩
  refine ⟨?_, h2⟩
  rw [cells1 ht, setC_self]
  exact h3.swapApp
/-- A step that changes the cells c and c2. -/
theorem mS2 {c c2 : Nat} {F G : Fr → List Res} (F' G' : Fr → List Res)
    (hs : ∀ g w Y, Wd Γ (F (ovr (stab.getD c []) g noFr) ++ (G (ovr (stab.getD c2 []) g noFr) ++ (K ++ Y))) w → Step P o (ovr stab.flatten g ρ) w fun u w' => (freeD stab o.dst = false → u = v) ∧ Wd Γ (F' (ovr (stab.getD c []) (putO g o.dst u) noFr) ++ (G' (ovr (stab.getD c2 []) (putO g o.dst u) noFr) ++ (K ++ Y))) w')
    (h : MSw (mV P n ops Γ K wr tc stab) Q (i + 1) rest ⟨putO ρ o.dst v, setC (setC M c F') c2 G'⟩) (hM : M c = F := by first | exact setC_self | exact ml1 | exact ml2 | exact ((setC_other (by decide)).trans setC_self) | exact ((setC_other (by decide)).trans ml2) | exact ((setC_other (by decide)).trans ((setC_other (by decide)).trans ml2)) | exact ((setC_other (by decide)).trans ((setC_other (by decide)).trans ((setC_other (by decide)).trans ml2))) | exact ((setC_other (by decide)).trans ((setC_other (by decide)).trans setC_self)) | exact rfl) (hM2 : M c2 = G := by first | exact setC_self | exact ml1 | exact ml2 | exact ((setC_other (by decide)).trans setC_self) | exact ((setC_other (by decide)).trans ml2) | exact ((setC_other (by decide)).trans ((setC_other (by decide)).trans ml2)) | exact ((setC_other (by decide)).trans ((setC_other (by decide)).trans ((setC_other (by decide)).trans ml2))) | exact ((setC_other (by decide)).trans ((setC_other (by decide)).trans setC_self)) | exact rfl) (hw0 : wr.getD i [] = [c, c2] := by exact rfl) (ht : tc.getD i [] = [c, c2] := by exact rfl) (hcc : Nat.beq c c2 = false := by exact rfl) (hg : o.guard = none := by exact rfl) :
    MSw (mV P n ops Γ K wr tc stab) Q i (o :: rest) ⟨ρ, M⟩ := by
  have hne : c ≠ c2 := fun e => by subst e; simp at hcc
  refine mM2 _ _ (fun Y w g hw => ?_) h hw0 hg
  rw [cells2 ht, hM, hM2] at hw
  have hw1 := (hw.perm (by rw [List.append_assoc]; exact (List.perm_append_comm_assoc _ _ _).trans (List.Perm.append_left _ (List.perm_append_comm_assoc _ _ _)))  : Wd Γ (F (ovr (stab.getD c []) g noFr) ++ (G (ovr (stab.getD c2 []) g noFr) ++ (K ++ Y))) w)
  refine (hs g w Y hw1).mono ?_
  rintro u w' ⟨h2, h3⟩
  refine ⟨?_, h2⟩
  rw [cells2 ht, setC_self, setC_other hne, setC_self]
  exact h3.perm (by rw [List.append_assoc]; exact ((List.perm_append_comm_assoc _ _ _).trans (List.Perm.append_left _ (List.perm_append_comm_assoc _ _ _))).symm)
/-- A slice is built. -/
theorem mBuildX {c dd E by' len sz : Nat} {zs : List Value} {parts : Array (Nat × Operand)} {TT : TypeId} {φ : T → Fr → Prop} {R : T → List Res} (rws : T → List (List Value)) [TL P TT E sz by' zs]
    (h : MSw (mV P n ops Γ K wr tc stab) Q (i + 1) rest ⟨putO ρ (some dd) undef, setC M c (exC (fun (p : T × Addr) g => φ p.1 g ∧ g dd = .slice (some p.2) len len) fun p => .own (.slice (some p.2) len len) E sz (rws p.1) :: R p.1)⟩)
    (hf : ∀ t g, φ t (ovr (stab.getD c []) g noFr) → fillL (fun i => some (i * sz, sz)) ((List.range (len * sz)).map fun i => zs.getD (i % sz) undef) (parts.toList.map fun p => (p.1, ev (ovr stab.flatten g ρ) p.2)) = some (rws t).flatten)
    (hw0 : wr.getD i [] = [c] := by exact rfl) (ht : tc.getD i [] = [c] := by exact rfl) (hM : M c = exC φ R := by first | exact setC_self | exact ml1 | exact ml2 | exact ((setC_other (by decide)).trans setC_self) | exact ((setC_other (by decide)).trans ml2) | exact ((setC_other (by decide)).trans ((setC_other (by decide)).trans ml2)) | exact ((setC_other (by decide)).trans ((setC_other (by decide)).trans ((setC_other (by decide)).trans ml2))) | exact ((setC_other (by decide)).trans ((setC_other (by decide)).trans setC_self)) | exact rfl) (hφ : ∀ t g u, φ t (ovr (stab.getD c []) g noFr) → φ t (ovr (stab.getD c []) (putO g (some dd) u) noFr) := by intro t g u h; exact h)
    (hlen : ∀ t, (rws t).length = len := by intro t; rfl) (hr : ∀ t, (rws t).all (fun r => Nat.beq r.length sz) = true := by intro t; rfl) (hbig : Nat.ble (len * sz) 16777216 = true := by exact rfl)
    (hs : (stab.getD c []).contains dd = true := by exact rfl) (hfr : freeD stab (some dd) = true := by exact rfl) :
    MSw (mV P n ops Γ K wr tc stab) Q i (⟨some dd, .buildSlice TT len parts, ty, pos, es, none⟩ :: rest) ⟨ρ, M⟩ :=
  mS (v := undef) (exC (fun (p : T × Addr) g => φ p.1 g ∧ g dd = .slice (some p.2) len len) fun p => .own (.slice (some p.2) len len) E sz (rws p.1) :: R p.1) (fun g w Y hw => by
    obtain ⟨t, h1, hw⟩ := exC_open hw
    refine s_buildSlice (rws := rws t) hw (hf t g h1) rfl (hlen t) (fun r hm => Nat.eq_of_beq_eq_true ((List.all_eq_true.1 (hr t)) r hm)) (Nat.le_of_ble_eq_true hbig) fun a w' hw' => ⟨fun hh => (by rw [hfr] at hh; cases hh), exC_mk (t, a) ⟨hφ t g _ h1, ?_⟩ hw'⟩
    rw [ovr_in (by simpa using hs)]; exact upd_same _ _ _) h hM hw0 ht rfl
/-- A slice is built of what lies in two cells. -/
theorem mBuild2X {T2 : Type} {c c2 dd E by' len sz : Nat} {zs : List Value} {parts : Array (Nat × Operand)} {TT : TypeId} {φ : T → Fr → Prop} {R : T → List Res} {ψ : T2 → Fr → Prop} {R2 : T2 → List Res} (rws : T → T2 → List (List Value)) [TL P TT E sz by' zs]
    (h : MSw (mV P n ops Γ K wr tc stab) Q (i + 1) rest ⟨putO ρ (some dd) undef, setC (setC M c (exC (fun (p : (T × T2) × Addr) g => φ p.1.1 g ∧ g dd = .slice (some p.2) len len) fun p => .own (.slice (some p.2) len len) E sz (rws p.1.1 p.1.2) :: (R2 p.1.2 ++ R p.1.1))) c2 fun _ => []⟩)
    (hf : ∀ t t2 g, φ t (ovr (stab.getD c []) g noFr) → ψ t2 (ovr (stab.getD c2 []) g noFr) → fillL (fun i => some (i * sz, sz)) ((List.range (len * sz)).map fun i => zs.getD (i % sz) undef) (parts.toList.map fun p => (p.1, ev (ovr stab.flatten g ρ) p.2)) = some (rws t t2).flatten)
    (hw0 : wr.getD i [] = [c, c2] := by exact rfl) (ht : tc.getD i [] = [c, c2] := by exact rfl) (hcc : Nat.beq c c2 = false := by exact rfl) (hM : M c = exC φ R := by first | exact setC_self | exact ml1 | exact ml2 | exact ((setC_other (by decide)).trans setC_self) | exact ((setC_other (by decide)).trans ml2) | exact ((setC_other (by decide)).trans ((setC_other (by decide)).trans ml2)) | exact ((setC_other (by decide)).trans ((setC_other (by decide)).trans setC_self)) | exact rfl) (hM2 : M c2 = exC ψ R2 := by first | exact setC_self | exact ml1 | exact ml2 | exact ((setC_other (by decide)).trans setC_self) | exact ((setC_other (by decide)).trans ml2) | exact ((setC_other (by decide)).trans ((setC_other (by decide)).trans ml2)) | exact ((setC_other (by decide)).trans ((setC_other (by decide)).trans setC_self)) | exact rfl)
    (hφ : ∀ t g u, φ t (ovr (stab.getD c []) g noFr) → φ t (ovr (stab.getD c []) (putO g (some dd) u) noFr) := by intro t g u h; exact h) (hlen : ∀ t t2, (rws t t2).length = len := by intro t t2; rfl) (hr : ∀ t t2, (rws t t2).all (fun r => Nat.beq r.length sz) = true := by intro t t2; rfl) (hbig : Nat.ble (len * sz) 16777216 = true := by exact rfl)
    (hs : (stab.getD c []).contains dd = true := by exact rfl) (hfr : freeD stab (some dd) = true := by exact rfl) :
    MSw (mV P n ops Γ K wr tc stab) Q i (⟨some dd, .buildSlice TT len parts, ty, pos, es, none⟩ :: rest) ⟨ρ, M⟩ :=
  mS2 (v := undef) (exC (fun (p : (T × T2) × Addr) g => φ p.1.1 g ∧ g dd = .slice (some p.2) len len) fun p => .own (.slice (some p.2) len len) E sz (rws p.1.1 p.1.2) :: (R2 p.1.2 ++ R p.1.1)) (fun _ => []) (fun g w Y hw => by
    obtain ⟨t, h1, hw⟩ := exC_open hw
    obtain ⟨t2, h2, hw⟩ := exC_open (hw.perm (List.perm_append_comm_assoc _ _ _))
    have hw : Wd Γ ((R2 t2 ++ R t) ++ (K ++ Y)) w := by rw [List.append_assoc]; exact hw
    refine s_buildSlice (rws := rws t t2) hw (hf t t2 g h1 h2) rfl (hlen t t2) (fun r hm => Nat.eq_of_beq_eq_true ((List.all_eq_true.1 (hr t t2)) r hm)) (Nat.le_of_ble_eq_true hbig) fun a w' hw' => ⟨fun hh => (by rw [hfr] at hh; cases hh), exC_mk ((t, t2), a) ⟨hφ t g _ h1, ?_⟩ hw'⟩
    rw [ovr_in (by simpa using hs)]; exact upd_same _ _ _) h hM hM2 hw0 ht hcc rfl
/-- A value is reckoned that hangs on open slots. -/
theorem mPureX {c dd : Nat} {op : Op} {φ : T → Fr → Prop} {R : T → List Res} (u : T → Value)
    (hy : ∀ t g w Y, φ t (ovr (stab.getD c []) g noFr) → Wd Γ (R t ++ (K ++ Y)) w → Yields P ⟨some dd, op, ty, pos, es, none⟩ (ovr stab.flatten g ρ) w (u t))
    (h : MSw (mV P n ops Γ K wr tc stab) Q (i + 1) rest ⟨putO ρ (some dd) undef, setC M c (exC (fun t g => φ t g ∧ g dd = u t) R)⟩)
    (hw0 : wr.getD i [] = [c] := by exact rfl) (ht : tc.getD i [] = [c] := by exact rfl) (hM : M c = exC φ R := by first | exact setC_self | exact ml1 | exact ml2 | exact ((setC_other (by decide)).trans setC_self) | exact ((setC_other (by decide)).trans ml2) | exact ((setC_other (by decide)).trans ((setC_other (by decide)).trans ml2)) | exact ((setC_other (by decide)).trans ((setC_other (by decide)).trans ((setC_other (by decide)).trans ml2))) | exact ((setC_other (by decide)).trans ((setC_other (by decide)).trans setC_self)) | exact rfl) (hφ : ∀ t g u, φ t (ovr (stab.getD c []) g noFr) → φ t (ovr (stab.getD c []) (putO g (some dd) u) noFr) := by intro t g u h; exact h)
    (hs : (stab.getD c []).contains dd = true := by exact rfl) (hfr : freeD stab (some dd) = true := by exact rfl) :
    MSw (mV P n ops Γ K wr tc stab) Q i (⟨some dd, op, ty, pos, es, none⟩ :: rest) ⟨ρ, M⟩ :=
  mS (v := undef) (exC (fun t g => φ t g ∧ g dd = u t) R) (fun g w Y hw => by
    obtain ⟨t, h1, hw⟩ := exC_open hw
    refine (hy t g w Y h1 hw).step ⟨fun hh => (by rw [hfr] at hh; cases hh), exC_mk t ⟨hφ t g _ h1, ?_⟩ hw⟩
    rw [ovr_in (by simpa using hs)]; exact upd_same _ _ _) h hM hw0 ht rfl
/-- An append onto what is owned. -/
theorem mAppX {c dd j j2 E by' sz m cc m2 c2 : Nat} {zs : List Value} {a : Option Addr} {rows : List (List Value)} {TT : TypeId} {x y : Operand} {φ : T → Fr → Prop} {R : T → List Res} (a2 : T → Option Addr) (rows2 : T → List (List Value)) [TL P TT E sz by' zs]
    (h : MSw (mV P n ops Γ K wr tc stab) Q (i + 1) rest ⟨putO ρ (some dd) undef, setC M c (exC (fun (p : T × Value) g => φ p.1 g ∧ g dd = p.2) fun p => (R p.1).set j (.own p.2 E sz (rows ++ rows2 p.1)))⟩)
    (hy : ∀ t g, φ t (ovr (stab.getD c []) g noFr) → ev (ovr stab.flatten g ρ) y = .slice (a2 t) m2 c2) (hw0 : wr.getD i [] = [c] := by exact rfl) (ht : tc.getD i [] = [c] := by exact rfl) (hM : M c = exC φ R := by first | exact setC_self | exact ml1 | exact ml2 | exact ((setC_other (by decide)).trans setC_self) | exact ((setC_other (by decide)).trans ml2) | exact ((setC_other (by decide)).trans ((setC_other (by decide)).trans ml2)) | exact ((setC_other (by decide)).trans ((setC_other (by decide)).trans ((setC_other (by decide)).trans ml2))) | exact ((setC_other (by decide)).trans ((setC_other (by decide)).trans setC_self)) | exact rfl) (hj : ∀ t, (R t)[j]? = some (.own (.slice a m cc) E sz rows) := by intro t; exact rfl) (hj2 : ∀ t, (R t)[j2]? = some (.own (.slice (a2 t) m2 c2) E sz (rows2 t)) := by intro t; exact rfl)
    (h1 : ∀ t, (rows2 t).flatten.all (·.oneCell') = true := by intro t; rfl) (hx : ∀ g, ev (ovr stab.flatten g ρ) x = .slice a m cc := by intro g; exact rfl)
    (hφ : ∀ t g u, φ t (ovr (stab.getD c []) g noFr) → φ t (ovr (stab.getD c []) (putO g (some dd) u) noFr) := by intro t g u h; exact h)
    (hb : (m + m2) * by' ≤ 140737488355328 := by omega) (h63 : m + m2 ≤ 9223372036854775807 := by omega) (hl2 : ∀ t, m2 = (rows2 t).length := by intro t; rfl)
    (hs : (stab.getD c []).contains dd = true := by exact rfl) (hfr : freeD stab (some dd) = true := by exact rfl) :
    MSw (mV P n ops Γ K wr tc stab) Q i (⟨some dd, .call { callee := .builtin .append, args := #[x, y], argTypes := #[TT, TT] }, ty, pos, es, none⟩ :: rest) ⟨ρ, M⟩ :=
  mS (v := undef) (exC (fun (p : T × Value) g => φ p.1 g ∧ g dd = p.2) fun p => (R p.1).set j (.own p.2 E sz (rows ++ rows2 p.1))) (fun g w Y hw => by
    obtain ⟨t, ht1, hw⟩ := exC_open hw
    have hjl : j < (R t).length := (List.getElem?_eq_some_iff.1 (hj t)).1
    have hjl2 : j2 < (R t).length := (List.getElem?_eq_some_iff.1 (hj2 t)).1
    have hi : (R t ++ (K ++ Y))[j]? = some (.own (.slice a m cc) E sz rows) := by rw [List.getElem?_append_left hjl]; exact hj t
    have hi2 : (R t ++ (K ++ Y))[j2]? = some (.own (.slice (a2 t) m2 c2) E sz (rows2 t)) := by rw [List.getElem?_append_left hjl2]; exact hj2 t
    refine s_append hw (hx g) (hy t g ht1) hi (hw.own_rd hi2) (hl2 t) (fun u hu => (List.all_eq_true.1 (h1 t)) u hu) hb h63 fun v' w' hw' => ⟨fun hh => (by rw [hfr] at hh; cases hh), exC_mk (t, v') ⟨hφ t g _ ht1, ?_⟩ ?_⟩
    · rw [ovr_in (by simpa using hs)]; exact upd_same _ _ _
    · rw [List.set_append_left _ _ hjl] at hw'; exact hw') h hM hw0 ht rfl
/-- What an append has made is stored into a block of another cell. -/
theorem mJoinX {c0 c b ob dv j : Nat} {cs : Array Value} {E E2 sz2 : Nat} {TT : TypeId} {x : Operand} {φ : T → Fr → Prop} {R : T → List Res} {val : T → Value} {rows : T → List (List Value)} [hn : TSz P TT 1]
    (h : MSw (mV P n ops Γ K wr tc stab) Q (i + 1) rest ⟨ρ, setC (setC M c0 fun _ => []) c (exC φ fun t => .blk b (.cells (putCells cs ob [val t]) E) :: R t)⟩)
    (hv : ∀ t g, φ t (ovr (stab.getD c []) g noFr) → ev (ovr stab.flatten g ρ) (.tmp dv) = val t) (hw0 : wr.getD i [] = [c0, c] := by exact rfl) (ht : tc.getD i [] = [c0, c] := by exact rfl) (hcc : Nat.beq c0 c = false := by exact rfl) (hM2 : M c = exC φ R := by first | exact setC_self | exact ml1 | exact ml2 | exact ((setC_other (by decide)).trans setC_self) | exact ((setC_other (by decide)).trans ml2) | exact ((setC_other (by decide)).trans ((setC_other (by decide)).trans ml2)) | exact ((setC_other (by decide)).trans ((setC_other (by decide)).trans ((setC_other (by decide)).trans ml2))) | exact ((setC_other (by decide)).trans ((setC_other (by decide)).trans setC_self)) | exact rfl) (hj : ∀ t, (R t)[j]? = some (.own (val t) E2 sz2 (rows t)) := by intro t; exact rfl) (hx : ∀ g, ev (ovr stab.flatten g ρ) x = .pointer (some ⟨b, ob, none⟩) := by intro g; exact rfl)
    (hM : M c0 = (fun _ => [.blk b (.cells cs E)]) := by exact rfl) (ho : ob + 1 ≤ cs.size := by exact Nat.le_of_ble_eq_true rfl) :
    MSw (mV P n ops Γ K wr tc stab) Q i (⟨none, .store TT x (.tmp dv), ty, pos, es, none⟩ :: rest) ⟨ρ, M⟩ :=
  mS2 (v := undef) (fun _ => []) (exC φ fun t => .blk b (.cells (putCells cs ob [val t]) E) :: R t) (fun g w Y hw => by
    have hw2 : Wd Γ (exC φ R (ovr (stab.getD c []) g noFr) ++ (.blk b (.cells cs E) :: (K ++ Y))) w := hw.perm (List.perm_append_comm_assoc _ _ _)
    obtain ⟨t, ht1, hw⟩ := exC_open hw2
    have hw : Wd Γ (.blk b (.cells cs E) :: (R t ++ (K ++ Y))) w := hw.perm List.perm_middle
    have hjl : j < (R t).length := (List.getElem?_eq_some_iff.1 (hj t)).1
    obtain ⟨q1, q2, q3, e1, -, -, -⟩ := hw.own_shape (i := j + 1) (v := val t) (e := E2) (sz := sz2) (rows := rows t) (by rw [List.getElem?_cons_succ, List.getElem?_append_left hjl]; exact hj t)
    refine s_store hn.h hw (hx g) (hv t g ht1) (vs := [val t]) (by rw [e1]; rfl) rfl (fun u hu => by simp at hu; subst hu; rw [e1]; rfl) (i := 0) rfl ho fun w' hw' => ⟨fun _ => rfl, ?_⟩
    exact exC_mk (R := fun t => .blk b (.cells (putCells cs ob [val t]) E) :: R t) t ht1 hw') h hM hM2 hw0 ht hcc rfl
theorem W_mixD {id : Nat} {l : List Oper} {QQ : Exit → Fr → World → Prop} (K X0 X1 X2 : List Res) (N1 N2 : List Nat) (wr tc : List (List Nat)) (hw : Wd Γ (K ++ (X0 ++ (X1 ++ X2))) w)
    (h : MSw (mV P n l Γ K wr tc [[], N1, N2]) (fun ρ w => QQ .normal ρ w) 0 l ⟨ρ, ML [fun _ => X0, exC (T := Unit) (fun _ _ => True) (fun _ => X1), exC (T := Unit) (fun _ _ => True) (fun _ => X2)]⟩)
    (hm : P.follows .mixedOrders = true := by kernel_rfl) (hk : checkM n l wr tc [[], N1, N2] = true := by kernel_rfl) : W P n (.region id l.toArray true) QQ ρ w :=
  W_mixed K [fun _ => X0, exC (T := Unit) (fun _ _ => True) (fun _ => X1), exC (T := Unit) (fun _ _ => True) (fun _ => X2)] wr tc [[], N1, N2] (by
    show Wd Γ (K ++ (X0 ++ (exC (T := Unit) (fun _ _ => True) (fun _ => X1) (ovr N1 ρ noFr) ++ (exC (T := Unit) (fun _ _ => True) (fun _ => X2) (ovr N2 ρ noFr) ++ [])))) w
    rw [List.append_nil]
    have h1 : Wd Γ (X1 ++ (X2 ++ (K ++ X0))) w := hw.perm (by
      rw [← List.append_assoc, ← List.append_assoc X1]
      exact List.perm_append_comm)
    have h2 : Wd Γ (exC (T := Unit) (fun _ _ => True) (fun _ => X1) (ovr N1 ρ noFr) ++ (X2 ++ (K ++ X0))) w := exC_mk () trivial h1
    have h3 : Wd Γ (X2 ++ (exC (T := Unit) (fun _ _ => True) (fun _ => X1) (ovr N1 ρ noFr) ++ (K ++ X0))) w := h2.perm (List.perm_append_comm_assoc _ _ _)
    have h4 : Wd Γ (exC (T := Unit) (fun _ _ => True) (fun _ => X2) (ovr N2 ρ noFr) ++ (exC (T := Unit) (fun _ _ => True) (fun _ => X1) (ovr N1 ρ noFr) ++ (K ++ X0))) w := exC_mk () trivial h3
    have h5 : Wd Γ (exC (T := Unit) (fun _ _ => True) (fun _ => X1) (ovr N1 ρ noFr) ++ (exC (T := Unit) (fun _ _ => True) (fun _ => X2) (ovr N2 ρ noFr) ++ (K ++ X0))) w := h4.perm (List.perm_append_comm_assoc _ _ _)
    exact h5.perm (by
      rw [← List.append_assoc, ← List.append_assoc K]
      exact List.perm_append_comm)) h hm hk
theorem mEndD {N1 N2 : List Nat} {φ : T → Fr → Prop} {R : T → List Res} (h : ∀ t w g, φ t (ovr N1 g noFr) → Wd Γ (R t ++ K) w → Q (ovr [[], N1, N2].flatten g ρ) w) (hM0 : M 0 = fun _ => [] := by exact rfl) (hM : M 1 = exC φ R := by first | exact setC_self | exact ml1 | exact ml2 | exact ((setC_other (by decide)).trans setC_self) | exact ((setC_other (by decide)).trans ml2) | exact ((setC_other (by decide)).trans ((setC_other (by decide)).trans ml2)) | exact ((setC_other (by decide)).trans ((setC_other (by decide)).trans ((setC_other (by decide)).trans ml2))) | exact ((setC_other (by decide)).trans ((setC_other (by decide)).trans setC_self)) | exact rfl) : MSw (mV P n ops Γ K wr tc [[], N1, N2]) Q i [] ⟨ρ, M⟩ :=
  mEnd fun w g hw => by
    have hw1 : Wd Γ (K ++ (M 0 (ovr [] g noFr) ++ (M 1 (ovr N1 g noFr) ++ (M 2 (ovr N2 g noFr) ++ [])))) w := hw
    rw [hM0, hM, List.nil_append] at hw1
    have hw2 : Wd Γ (exC φ R (ovr N1 g noFr) ++ (K ++ (M 2 (ovr N2 g noFr) ++ []))) w := hw1.swapApp
    obtain ⟨t, ht, hw3⟩ := exC_open hw2
    exact h t w g ht (Wd.left (S := R t ++ K) (by rw [List.append_assoc]; exact hw3))
end
end Mk
end
/- The reference's lexer: digits, numerals. -/
section
open Go Mk
namespace Go.Proofs.YtnkekcippfdbgaaGreat
set_option maxHeartbeats 4000000
attribute [local irreducible] Calls

instance pc_hex (b : UInt8) : PC Tryz.prog 157 [.int .u8 ((b.toNat : Nat) : Int)] (.int .i64 (hexV ((b.toNat : Nat) : Int))) := ⟨fun w => by
  obtain ⟨hc0, hc1⟩ := byte_le b
  generalize ((b.toNat : Nat) : Int) = c at *
  refine calls_of_W Tryz.func157 rfl rfl ?_
  repeat (first | refine byW ?_ | (refine byV ?_; intro w hw))
  refine W_cond rfl (fun h => ?_) (fun h => ?_)
  · repeat (first | refine byW ?_ | (refine byV ?_; intro w hw))
    refine ⟨_, rfl, ret_i rfl ?_, rfl⟩
    have h1 : 48 ≤ c ∧ c ≤ 57 := by simpa [digitB] using h
    rw [u8_wrap (by omega) (by omega), wrap_i64 (by omega) (by omega)]
    unfold hexV; rw [if_pos h]
  · repeat (first | refine byW ?_ | (refine byV ?_; intro w hw))
    refine W_cond rfl (fun h2 => ?_) (fun h2 => ?_)
    · repeat (first | refine byW ?_ | (refine byV ?_; intro w hw))
      refine ⟨_, rfl, ret_i rfl ?_, rfl⟩
      have h1 : 97 ≤ c ∧ c ≤ 102 := by simpa using h2
      rw [u8_wrap (by omega) (by omega), wrap_i64 (a := c - 97) (by omega) (by omega), wrap_i64 (by omega) (by omega)]
      unfold hexV; rw [if_neg (by simp [h]), if_pos h2]
    · repeat (first | refine byW ?_ | (refine byV ?_; intro w hw))
      refine W_cond rfl (fun h3 => ?_) (fun h3 => ?_)
      · repeat (first | refine byW ?_ | (refine byV ?_; intro w hw))
        refine ⟨_, rfl, ret_i rfl ?_, rfl⟩
        have h1 : 65 ≤ c ∧ c ≤ 70 := by simpa using h3
        rw [u8_wrap (by omega) (by omega), wrap_i64 (a := c - 65) (by omega) (by omega), wrap_i64 (by omega) (by omega)]
        unfold hexV; rw [if_neg (by simp [h]), if_neg (by simpa using h2), if_pos h3]
      · repeat (first | refine byW ?_ | (refine byV ?_; intro w hw))
        refine ⟨_, rfl, ret_i rfl ?_, rfl⟩
        unfold hexV; rw [if_neg (by simp [h]), if_neg (by simpa using h2), if_neg (by simpa using h3)]⟩
instance pc_plain (c : Int) : PC Tryz.prog 155 [.int .u8 c] (.bool (inStr c)) := ⟨fun w => by
  refine calls_of_W Tryz.func155 rfl rfl ?_
  repeat (first | refine byW ?_ | (refine byV ?_; intro w hw))
  exact ⟨_, rfl, rfl, rfl⟩⟩
theorem u64_rng (a : Int) : 0 ≤ IntKind.u64.wrap a ∧ IntKind.u64.wrap a ≤ 18446744073709551615 := by
  simp [IntKind.wrap, IntKind.bits, IntKind.signed]; omega
theorem valL_app (base : Nat) : ∀ (l r : List UInt8) (v : Nat), valL base (l ++ r) v = valL base r (valL base l v)
  | [], _, _ => rfl
  | c :: l, r, v => valL_app base l r _
theorem digV_ok {c base : Int} (h0 : 0 ≤ hexV c) (h1 : hexV c < base) : digV c base = hexV c := by unfold digV; rw [if_neg (by omega)]
theorem digV_bad {c base : Int} (hb : 0 < base) (h : hexV c < 0 ∨ base ≤ hexV c) : digV c base < 0 := by
  have := hexV_range c
  unfold digV
  split
  · decide
  · omega
set_option maxRecDepth 4000 in
theorem rnumber_any {Γ : Gho} {S : List Res} {w : World} (s : ByteArray) (hs : s.size ≤ 4611686018427387904) (h0 : 0 < s.size) (hw : Wd Γ S w) :
    Calls Tryz.prog 125 #[.string s] w fun e w' => e = .returned (.tuple #[.int .u64 (numS s).1, .int .i64 (numS s).2]) ∧ Wd Γ S w' := by
  refine calls_of_W Tryz.func125 rfl rfl ?_
  have e1 : ((s.size : Int) - 1).toNat = s.size - 1 := by omega
  repeat (first | refine byW ?_ | (refine byV ?_; intro w hw))
  refine W_cutB (fun ρ w' => ∃ sh : Nat, Has ρ [(0, .string s), (4, .int .u64 sh)] ∧ Wd Γ S w' ∧ sh = sufK (byteAt s (s.size - 1))) ?_ ?_
  · rw [e1]
    refine W_cond rfl (fun h => ?_) (fun h => ?_)
    · have h : byteAt s (s.size - 1) = 75 := of_decide_eq_true h
      repeat (first | refine byW ?_ | (refine byV ?_; intro w hw))
      exact ⟨10, ⟨rfl, rfl, trivial⟩, hw, by rw [h]; rfl⟩
    repeat (first | refine byW ?_ | (refine byV ?_; intro w hw))
    refine W_cond rfl (fun h2 => ?_) (fun h2 => ?_)
    · have h : byteAt s (s.size - 1) = 77 := of_decide_eq_true h2
      repeat (first | refine byW ?_ | (refine byV ?_; intro w hw))
      exact ⟨20, ⟨rfl, rfl, trivial⟩, hw, by rw [h]; rfl⟩
    repeat (first | refine byW ?_ | (refine byV ?_; intro w hw))
    refine W_cond rfl (fun h3 => ?_) (fun h3 => ?_)
    · have h : byteAt s (s.size - 1) = 71 := of_decide_eq_true h3
      repeat (first | refine byW ?_ | (refine byV ?_; intro w hw))
      exact ⟨30, ⟨rfl, rfl, trivial⟩, hw, by rw [h]; rfl⟩
    · have h : ¬ byteAt s (s.size - 1) = 75 := of_decide_eq_false h
      have h2 : ¬ byteAt s (s.size - 1) = 77 := of_decide_eq_false h2
      have h3 : ¬ byteAt s (s.size - 1) = 71 := of_decide_eq_false h3
      repeat (first | refine byW ?_ | (refine byV ?_; intro w hw))
      exact ⟨0, ⟨rfl, rfl, trivial⟩, hw, by unfold sufK; rw [if_neg h3, if_neg h2, if_neg h]⟩
  clear hw
  rintro ρ w ⟨sh, hρ, hw, hsh⟩
  rw [hρ.eq]
  have hcase := sufK_cases (byteAt s (s.size - 1))
  rw [← hsh] at hcase
  repeat (first | refine byW ?_ | (refine byV ?_; intro w hw))
  refine W_cutT (fun ρ w'' => Has ρ [(0, .string (cutS s)), (4, .int .u64 sh)] ∧ Wd Γ S w'') ?_ ?_
  · refine W_cond rfl (fun h => ?_) (fun h => ?_)
    · have h : 0 < sh := by have := of_decide_eq_true h; omega
      repeat (first | refine byW ?_ | (refine byV ?_; intro w hw))
      rw [e1]
      exact ⟨⟨by unfold cutS; rw [← hsh, if_pos h]; rfl, rfl, trivial⟩, hw⟩
    · have h : ¬ 0 < sh := by have := of_decide_eq_false h; omega
      repeat (first | refine byW ?_ | (refine byV ?_; intro w hw))
      exact ⟨⟨by unfold cutS; rw [← hsh, if_neg h]; rfl, rfl, trivial⟩, hw⟩
  clear hw
  rintro ρ w ⟨hρ, hw⟩
  rw [hρ.eq, numS_body, ← hsh]
  have hsz : (cutS s).size ≤ 4611686018427387904 := by
    unfold cutS; split
    · rw [sub_size (by omega)]; omega
    · exact hs
  generalize cutS s = s' at *
  clear hsh hρ e1
  have hx0 : (2 : Int) < s'.size → byteAt s' ((0 : Int).toNat) = byteAt s' 0 := fun _ => rfl
  repeat (first | refine byW ?_ | (refine byV ?_; intro w hw))
  refine W_cutT (fun ρ w => ∃ (s2 : ByteArray) (base : Nat), Has ρ [(0, .string s2), (4, .int .u64 sh), (5, .int .u64 base)] ∧ Wd Γ S w ∧ numBody sh s' = numCore base sh (bts s2) ∧ (base = 10 ∨ base = 16) ∧ s2.size ≤ 4611686018427387904) ?_ ?_
  · refine W_cond rfl (fun h => ?_) (fun h => ?_)
    · have h : 2 < s'.size ∧ byteAt s' 0 = 48 ∧ byteAt s' 1 = 120 := by
        simp only [Bool.and_eq_true, decide_eq_true_eq] at h
        exact ⟨by omega, h.1.2, h.2⟩
      refine W_quiet (by kernel_rfl) (by kernel_rfl) hw ?_
      repeat (first | refine Q_nil ?_ | (apply Q_plain; first | (apply Q_go; first | refine qP ?_ | refine qPg ?_) | refine qY ?_) | (apply Q_guarded; first | (apply Q_go; first | refine qPG ?_ | refine qPgG ?_) | refine qG ?_))
      intro w hw
      exact ⟨bSub s' 2 s'.size, 16, ⟨rfl, rfl, rfl, trivial⟩, hw, by unfold numBody; rw [if_pos ⟨by omega, h.2⟩, if_neg (by omega)], .inr rfl, by rw [sub_size (Nat.le_refl _)]; omega⟩
    · have h : ¬ (2 < s'.size ∧ byteAt s' 0 = 48 ∧ byteAt s' 1 = 120) := fun hh => by
        have q : (decide ((2 : Int) < s'.size) && decide (byteAt s' 0 = 48) && decide (byteAt s' 1 = 120)) = true := by
          simp only [Bool.and_eq_true, decide_eq_true_eq]
          exact ⟨⟨by omega, hh.2.1⟩, hh.2.2⟩
        exact absurd (q.symm.trans h) (by decide)
      repeat (first | refine byW ?_ | (refine byV ?_; intro w hw))
      refine W_cond rfl (fun h2 => ?_) (fun h2 => ?_)
      · have h2 : s'.size = 0 ∨ (1 < s'.size ∧ byteAt s' 0 = 48) := by
          simp only [Bool.or_eq_true, Bool.and_eq_true, decide_eq_true_eq] at h2
          rcases h2 with h2 | h2
          · exact .inl (by omega)
          · exact .inr ⟨by omega, h2.2⟩
        have hb : numBody sh s' = (0, 50) := by
          unfold numBody
          by_cases h3 : 2 ≤ s'.size ∧ byteAt s' 0 = 48 ∧ byteAt s' 1 = 120
          · rw [if_pos h3, if_pos (by omega)]
          · rw [if_neg h3, if_pos h2]
        rw [hb]
        repeat (first | refine byW ?_ | (refine byV ?_; intro w hw))
        exact ⟨_, rfl, rfl, hw⟩
      · have h2 : ¬ (s'.size = 0 ∨ (1 < s'.size ∧ byteAt s' 0 = 48)) := fun hh => by
          have q : (decide ((s'.size : Int) = 0) || (decide ((1 : Int) < s'.size) && decide (byteAt s' 0 = 48))) = true := by
            simp only [Bool.or_eq_true, Bool.and_eq_true, decide_eq_true_eq]
            rcases hh with hh | hh
            · exact .inl (by omega)
            · exact .inr ⟨by omega, hh.2⟩
          exact absurd (q.symm.trans h2) (by decide)
        repeat (first | refine byW ?_ | (refine byV ?_; intro w hw))
        refine ⟨s', 10, ⟨rfl, rfl, rfl, trivial⟩, hw, ?_, .inl rfl, hsz⟩
        unfold numBody
        rw [if_neg (fun hh => h2 (.inr ⟨by omega, hh.2.1⟩)), if_neg h2]
  clear hw
  rintro ρ w ⟨s2, base, hρ, hw, hN, hbase, hsz2⟩
  rw [hρ.eq, hN]
  clear hN hρ hsz hx0
  have hbl := bts_len s2
  repeat (first | refine byW ?_ | (refine byV ?_; intro w hw))
  refine W_loop (fun μ ρ w => ∃ (k : Nat) (v : Int) (big : Bool), μ + k = s2.size ∧ Has ρ [(0, .string s2), (4, .int .u64 sh), (5, .int .u64 base), (6, .int .u64 v), (7, .bool big), (8, .int .i64 k)] ∧ ((bts s2).take k).all (fun c => decide (0 ≤ digV c.toNat base)) = true ∧ 0 ≤ v ∧ v ≤ 18446744073709551615 ∧ (if big = true then most64 < valL base (bts s2) 0 else valL base (bts s2) 0 = valL base ((bts s2).drop k) v.toNat) ∧ Wd Γ S w) s2.size ⟨0, 0, false, by omega, ⟨rfl, rfl, rfl, rfl, rfl, rfl, trivial⟩, rfl, by omega, by omega, rfl, hw⟩ ?_
  clear hw
  rintro μ ρ w ⟨k, v, big, hk, hρ, hall, hv0, hv1, hbig, hw⟩
  rw [hρ.eq]
  have hmost : (most64 : Int) = 18446744073709551615 := rfl
  repeat (first | refine byW ?_ | (refine byV ?_; intro w hw))
  refine W_cond rfl (fun h1 => ?_) (fun h1 => ?_)
  · have hkn : k < s2.size := by simpa using h1
    obtain ⟨c, hc⟩ := get_lt (l := bts s2) (k := k) (by omega)
    have hg : s2.data.toList.getD (k : Int).toNat 0 = c := by
      show (bts s2).getD k 0 = c
      rw [List.getD_eq_getElem?_getD, hc]; rfl
    have hmem : c ∈ bts s2 := List.mem_of_getElem? hc
    have hr := hexV_range c.toNat
    repeat (first | refine byW ?_ | (refine byV ?_; intro w hw))
    rw [hg]
    refine W_cond rfl (fun h2 => ?_) (fun h2 => ?_)
    · have hbad : digV c.toNat base < 0 := by
        refine digV_bad (by omega) ?_
        by_cases hn : hexV c.toNat < 0
        · exact .inl hn
        · rw [u64_wrap (a := hexV c.toNat) (by omega) (by omega)] at h2
          simp only [Bool.or_eq_true, decide_eq_true_eq] at h2
          exact h2
      have hf : (bts s2).all (fun c => decide (0 ≤ digV c.toNat base)) = false := by
        rw [List.all_eq_false]
        exact ⟨c, hmem, by simp; omega⟩
      repeat (first | refine byW ?_ | (refine byV ?_; intro w hw))
      exact ⟨_, rfl, by unfold numCore; rw [if_pos hf]; rfl, hw⟩
    have hn : 0 ≤ hexV c.toNat ∧ hexV c.toNat < base := by
      simp only [Bool.or_eq_false_iff, decide_eq_false_iff_not] at h2
      have h3 := h2.2
      rw [u64_wrap (a := hexV c.toNat) (by omega) (by omega)] at h3
      omega
    have hd0 := digV_ok hn.1 hn.2
    obtain ⟨d, hd⟩ : ∃ d : Nat, hexV c.toNat = (d : Int) := ⟨(hexV c.toNat).toNat, by omega⟩
    rw [hd] at hn hd0
    have hval1 : valL base ((bts s2).drop k) v.toNat = valL base ((bts s2).drop (k + 1)) (v.toNat * base + d) := by
      rw [drop_at hc]
      show valL base _ (v.toNat * base + (digV c.toNat base).toNat) = _
      rw [hd0]; rfl
    have hall2 : ((bts s2).take (k + 1)).all (fun c => decide (0 ≤ digV c.toNat base)) = true := by
      rw [List.take_add_one, hc, List.all_append, hall]
      simp [hd0]
    have hw1 : IntKind.u64.wrap (d : Int) = d := u64_wrap (by omega) (by omega)
    have hw2 : IntKind.u64.wrap (18446744073709551615 - (d : Int)) = 18446744073709551615 - d := u64_wrap (by omega) (by omega)
    have hdiv : (18446744073709551615 - (d : Int)).tdiv base = (18446744073709551615 - (d : Int)) / base := Int.tdiv_eq_ediv_of_nonneg (by omega)
    have hq0 : 0 ≤ (18446744073709551615 - (d : Int)) / base := Int.ediv_nonneg (by omega) (by omega)
    have hq1 : (18446744073709551615 - (d : Int)) / base ≤ 18446744073709551615 - (d : Int) := Int.ediv_le_self _ (by omega)
    have hw3 : IntKind.u64.wrap ((18446744073709551615 - (d : Int)) / base) = (18446744073709551615 - (d : Int)) / base := u64_wrap hq0 (by omega)
    have hle : v ≤ (18446744073709551615 - (d : Int)) / base ↔ v * base ≤ 18446744073709551615 - d := Int.le_ediv_iff_mul_le (by omega)
    clear hall hmem
    repeat (first | refine byW ?_ | (refine byV ?_; intro w hw))
    rw [hd, hw1, hw2, hdiv, hw3]
    refine W_cutT (fun ρ w => ∃ big2 : Bool, Has ρ [(0, .string s2), (4, .int .u64 sh), (5, .int .u64 base), (6, .int .u64 v), (7, .bool big2), (8, .int .i64 k), (9, .int .i64 d)] ∧ (if big2 = true then most64 < valL base (bts s2) 0 else valL base (bts s2) 0 = valL base ((bts s2).drop (k + 1)) (v.toNat * base + d) ∧ v * base ≤ 18446744073709551615 - d) ∧ Wd Γ S w) ?_ ?_
    · refine W_cond rfl (fun h3 => ?_) (fun h3 => ?_)
      · have h3 : (18446744073709551615 - (d : Int)) / base < v := of_decide_eq_true h3
        repeat (first | refine byW ?_ | (refine byV ?_; intro w hw))
        refine ⟨true, ⟨rfl, rfl, rfl, rfl, rfl, rfl, by rw [← hd]; rfl, trivial⟩, ?_, hw⟩
        rw [if_pos rfl]
        cases big with
        | true => exact hbig
        | false =>
          rw [if_neg (by decide)] at hbig
          rw [hbig, hval1]
          have h4 : ¬ v * base ≤ 18446744073709551615 - d := fun hh => by have := hle.2 hh; omega
          have h5 := valL_le base (by omega) ((bts s2).drop (k + 1)) (v.toNat * base + d)
          have h6 : ((v.toNat * base + d : Nat) : Int) = v * base + d := by
            push_cast
            rw [Int.toNat_of_nonneg hv0]
          omega
      · have h3 : ¬ (18446744073709551615 - (d : Int)) / base < v := of_decide_eq_false h3
        repeat (first | refine byW ?_ | (refine byV ?_; intro w hw))
        refine ⟨big, ⟨rfl, rfl, rfl, rfl, rfl, rfl, by rw [← hd]; rfl, trivial⟩, ?_, hw⟩
        cases big with
        | true => exact hbig
        | false =>
          rw [if_neg (by decide)] at hbig ⊢
          exact ⟨hbig.trans hval1, hle.1 (by omega)⟩
    clear hw hρ hbig
    rintro ρ w ⟨big2, hρ, hbig, hw⟩
    rw [hρ.eq]
    repeat (first | refine byW ?_ | (refine byV ?_; intro w hw))
    have r1 := u64_rng (v * base)
    have r2 := u64_rng (IntKind.u64.wrap (v * base) + d)
    refine ⟨μ - 1, by omega, k + 1, IntKind.u64.wrap (IntKind.u64.wrap (v * base) + d), big2, by omega, ⟨rfl, rfl, rfl, by rw [hw1]; rfl, rfl, rfl, trivial⟩, hall2, r2.1, r2.2, ?_, hw⟩
    cases big2 with
    | true => exact hbig
    | false =>
      rw [if_neg (by decide)] at hbig ⊢
      have hm0 : 0 ≤ v * base := Int.mul_nonneg hv0 (by omega)
      rw [u64_wrap (a := v * base) hm0 (by omega), u64_wrap (a := v * base + d) (by omega) (by omega), hbig.1]
      congr 1
      have h6 : ((v.toNat * base + d : Nat) : Int) = v * base + d := by
        push_cast
        rw [Int.toNat_of_nonneg hv0]
      omega
  have hkn : ¬ k < s2.size := by simpa using h1
  rw [List.take_of_length_le (by omega)] at hall
  rw [List.drop_eq_nil_of_le (by omega)] at hbig
  have hcore : numCore base sh (bts s2) = if most64 >>> sh < valL base (bts s2) 0 then (0, 6) else (valL base (bts s2) 0 <<< sh, 0) := by
    unfold numCore
    rw [if_neg (by rw [hall]; simp)]
  rw [hcore]
  have h6 : most64 >>> sh ≤ most64 := Nat.shiftRight_le _ _
  have key1 : (18446744073709551615 : Int).fdiv (2 ^ (min (sh : Int).toNat IntKind.u64.bits)) = ((most64 >>> sh : Nat) : Int) := by
    rcases hcase with rfl | rfl | rfl | rfl <;> decide +kernel
  have hmin : min (sh : Int).toNat IntKind.u64.bits = sh := by
    rcases hcase with rfl | rfl | rfl | rfl <;> rfl
  repeat (first | refine byW ?_ | (refine byV ?_; intro w hw))
  rw [key1]
  refine W_cond rfl (fun h2 => ?_) (fun h2 => ?_)
  · have h3 : most64 >>> sh < valL base (bts s2) 0 := by
      cases big with
      | true => rw [if_pos rfl] at hbig; omega
      | false =>
        rw [if_neg (by decide)] at hbig
        have hbig : valL base (bts s2) 0 = v.toNat := hbig
        simp only [Bool.false_or, decide_eq_true_eq] at h2
        omega
    repeat (first | refine byW ?_ | (refine byV ?_; intro w hw))
    exact ⟨_, rfl, by rw [if_pos h3]; rfl, hw⟩
  · have hb : big = false ∧ ¬ ((most64 >>> sh : Nat) : Int) < v := by
      simp only [Bool.or_eq_false_iff, decide_eq_false_iff_not] at h2
      exact h2
    obtain ⟨rfl, h2⟩ := hb
    rw [if_neg (by decide)] at hbig
    have hbig : valL base (bts s2) 0 = v.toNat := hbig
    rw [hbig, if_neg (by omega)]
    have h3 : v.toNat * 2 ^ sh ≤ most64 := by
      rw [Nat.shiftRight_eq_div_pow] at h2
      exact (Nat.le_div_iff_mul_le (Nat.two_pow_pos sh)).1 (by omega)
    have h4 : IntKind.u64.wrap (v * 2 ^ (min (sh : Int).toNat IntKind.u64.bits)) = ((v.toNat <<< sh : Nat) : Int) := by
      rw [hmin, Nat.shiftLeft_eq]
      have e : ((v.toNat * 2 ^ sh : Nat) : Int) = v * 2 ^ sh := by push_cast; rw [Int.toNat_of_nonneg hv0]
      rw [← e]
      have hmost : most64 = 18446744073709551615 := rfl
      exact u64_wrap (by omega) (by omega)
    repeat (first | refine byW ?_ | (refine byV ?_; intro w hw))
    refine ⟨_, rfl, ?_, hw⟩
    show Ending.returned (.tuple #[.int .u64 (IntKind.u64.wrap (v * 2 ^ (min (sh : Int).toNat IntKind.u64.bits))), .int .i64 0]) = _
    rw [h4]
end Go.Proofs.YtnkekcippfdbgaaGreat
end
/- The reference's lexer: punctuation marks, the end of a token, positions. -/
section
open Go Mk
namespace Go.Proofs.YtnkekcippfdbgaaGreat
set_option maxHeartbeats 4000000
attribute [local irreducible] Calls

def twoL : List ByteArray := [⟨#[60, 61]⟩, ⟨#[62, 61]⟩, ⟨#[33, 61]⟩, ⟨#[46, 46]⟩, ⟨#[45, 62]⟩]
def marksL : List ByteArray := [⟨#[60, 61]⟩, ⟨#[62, 61]⟩, ⟨#[33, 61]⟩, ⟨#[46, 46]⟩, ⟨#[45, 62]⟩, ⟨#[123]⟩, ⟨#[125]⟩, ⟨#[40]⟩, ⟨#[41]⟩, ⟨#[91]⟩, ⟨#[93]⟩, ⟨#[44]⟩, ⟨#[59]⟩, ⟨#[58]⟩, ⟨#[61]⟩, ⟨#[60]⟩, ⟨#[62]⟩, ⟨#[33]⟩, ⟨#[43]⟩, ⟨#[45]⟩, ⟨#[42]⟩, ⟨#[63]⟩, ⟨#[46]⟩, ⟨#[47]⟩]
abbrev strRow (l : List ByteArray) : List (List Value) := l.map fun x => [.string x]
theorem marks_any {Γ : Gho} {S : List Res} {w : World} (hw : Wd Γ S w) :
    Calls Tryz.prog 174 #[] w fun e w' => ∃ v, e = .returned v ∧ Wd Γ (.own v 9 1 (strRow marksL) :: S) w' := by
  refine calls_of_W Tryz.func174 rfl rfl ?_
  repeat (first | refine byW ?_ | (refine byV ?_; intro w hw))
  refine lBuildSlice (strRow marksL) ?_
  intro a w hw
  repeat (first | refine byW ?_ | (refine byV ?_; intro w hw))
  exact ⟨_, rfl, _, rfl, hw⟩
/-- Does s begin with m? -/
def preB (s m : ByteArray) : Bool := decide (m.size ≤ s.size) && decide (bSub s 0 m.size = m)
theorem one_byte {s : ByteArray} (h : 1 ≤ s.size) : bSub s 0 1 = ⟨#[s.data.toList.getD 0 0]⟩ := by
  have hl := bts_len s
  apply bts_ext
  rw [bts_sub]
  match hb : bts s with
  | [] => rw [hb] at hl; simp at hl; omega
  | x :: r =>
    have : s.data.toList.getD 0 0 = x := by show (bts s).getD 0 0 = x; rw [hb]; rfl
    rw [this]; rfl
theorem pre_two {s : ByteArray} : (twoL.any fun m => preB s m) = decide (2 ≤ s.size ∧ two2 (byteAt s 0) (byteAt s 1) = true) := by
  by_cases h : 2 ≤ s.size
  · obtain ⟨x, y, hx, hy, hxy⟩ := two_bytes h
    rw [hx, hy]
    have e : ∀ a b : UInt8, preB s ⟨#[a, b]⟩ = (decide ((x.toNat : Int) = a.toNat) && decide ((y.toNat : Int) = b.toNat)) := fun a b => by
      unfold preB
      show (decide (2 ≤ s.size) && decide (bSub s 0 2 = ⟨#[a, b]⟩)) = _
      rw [hxy, decide_eq_true h, Bool.true_and, ← Bool.decide_and, decide_eq_decide, pair_eq]
      omega
    simp only [twoL, List.any_cons, List.any_nil, e, Bool.or_false]
    rw [Bool.eq_iff_iff]
    simp only [two2, Bool.or_eq_true, Bool.and_eq_true, decide_eq_true_eq, h, true_and]
    show _ ∨ _ ↔ _
    constructor
    · rintro (h | h | h | h | h) <;> simp_all
    · rintro ((((h | h) | h) | h) | h) <;> simp_all
  · have e : ∀ a b : UInt8, preB s ⟨#[a, b]⟩ = false := fun a b => by
      unfold preB
      show (decide (2 ≤ s.size) && _) = false
      rw [decide_eq_false h]; rfl
    simp only [twoL, List.any_cons, List.any_nil, e]
    simp [h]
theorem pre_one {s : ByteArray} {a : UInt8} : preB s ⟨#[a]⟩ = decide (0 < s.size ∧ s.data.toList.getD 0 0 = a) := by
  unfold preB
  show (decide (1 ≤ s.size) && decide (bSub s 0 1 = ⟨#[a]⟩)) = _
  by_cases h : 1 ≤ s.size
  · rw [one_byte h, decide_eq_true h, Bool.true_and, decide_eq_decide]
    have : 0 < s.size := h
    simp [this]
  · have h2 : ¬ 0 < s.size := h
    simp [h, h2]
theorem marks_split : marksL = twoL ++ oneB.map fun a => ⟨#[a]⟩ := by decide +kernel
theorem marks_none {s : ByteArray} (h : ∀ m ∈ marksL, preB s m = false) : punctN s = 0 := by
  rw [marks_split] at h
  have h2 : (twoL.any fun m => preB s m) = false := by
    rw [List.any_eq_false]
    intro m hm; rw [h m (List.mem_append_left _ hm)]; decide
  rw [pre_two] at h2
  unfold punctN
  rw [if_neg (of_decide_eq_false h2), if_neg]
  rintro ⟨h3, h4⟩
  have := h _ (List.mem_append_right _ (List.mem_map_of_mem h4))
  rw [pre_one] at this
  exact of_decide_eq_false this ⟨h3, rfl⟩
theorem marks_at {s m : ByteArray} {k : Nat} (hm : marksL[k]? = some m) (hp : preB s m = true) (hn : ∀ j m', j < k → marksL[j]? = some m' → preB s m' = false) : punctN s = m.size := by
  rw [marks_split] at hm hn
  have hl : twoL.length = 5 := rfl
  unfold punctN
  by_cases hk : k < 5
  · rw [List.getElem?_append_left (by omega)] at hm
    have hmem := List.mem_of_getElem? hm
    have h2 : (twoL.any fun m => preB s m) = true := List.any_eq_true.2 ⟨m, hmem, hp⟩
    rw [pre_two] at h2
    rw [if_pos (of_decide_eq_true h2)]
    have : ∀ x ∈ twoL, x.size = 2 := by decide
    exact (this m hmem).symm
  · have h2 : (twoL.any fun m => preB s m) = false := by
      rw [List.any_eq_false]
      intro x hx
      obtain ⟨j, hj⟩ := List.getElem?_of_mem hx
      have hjl := (List.getElem?_eq_some_iff.1 hj).1
      rw [hn j x (by omega) (by rw [List.getElem?_append_left (by omega)]; exact hj)]; decide
    rw [pre_two] at h2
    rw [if_neg (of_decide_eq_false h2)]
    rw [List.getElem?_append_right (by omega), List.getElem?_map] at hm
    cases hb : oneB[k - twoL.length]? with
    | none => rw [hb] at hm; cases hm
    | some a =>
      rw [hb] at hm
      cases hm
      have hp := of_decide_eq_true (pre_one.symm.trans hp)
      rw [if_pos ⟨hp.1, by rw [hp.2]; exact List.mem_of_getElem? hb⟩]; rfl
theorem mark_any {Γ : Gho} {S : List Res} {w : World} (s : ByteArray) (i : Nat) (hi : i < s.size) (hs : s.size ≤ 4611686018427387904) (hw : Wd Γ S w) :
    Calls Tryz.prog 156 #[.string s, .int .i64 i] w fun e w' => ∃ t : ByteArray, e = .returned (.string t) ∧ t.size = punctN (bSub s i s.size) ∧ Wd Γ S w' := by
  refine calls_of_W Tryz.func156 rfl rfl ?_
  repeat (first | refine byW ?_ | (refine byV ?_; intro w hw))
  refine lCall ?_
  refine (marks_any hw).mono ?_
  clear hw
  rintro e w ⟨v, rfl, hw⟩
  refine ⟨_, rfl, ?_⟩
  obtain ⟨a, n, c, rfl, hn, hm, hx⟩ := hw.own_shape (i := 0) rfl
  have hn : n = 24 := hn
  subst hn
  repeat (first | refine byW ?_ | (refine byV ?_; intro w hw))
  refine W_loop (fun μ ρ w => ∃ (k : Nat), μ + k = 24 ∧ (∀ j m', j < k → marksL[j]? = some m' → preB (bSub s i s.size) m' = false) ∧ Has ρ [(0, .string s), (1, .int .i64 i), (5, .slice a 24 c), (6, .int .i64 (k : Nat))] ∧ Wd Γ (.own (.slice a 24 c) 9 1 (strRow marksL) :: S) w) 24 ⟨0, by omega, by simp, ⟨rfl, rfl, rfl, rfl, trivial⟩, hw⟩ ?_
  clear hw
  rintro μ ρ w ⟨k, hk, hj, hρ, hw⟩
  rw [hρ.eq]
  have hsz : (bSub s i s.size).size = s.size - i := sub_size (Nat.le_refl _)
  repeat (first | refine byW ?_ | (refine byV ?_; intro w hw))
  refine W_cond rfl (fun h => ?_) (fun h => ?_)
  · have hkn : k < 24 := by have := of_decide_eq_true h; omega
    obtain ⟨m, hm⟩ := get_lt (l := marksL) (k := k) (by show k < 24; omega)
    have hms : m.size ≤ 2 := by
      have : ∀ x ∈ marksL, x.size ≤ 2 := by decide
      exact this m (List.mem_of_getElem? hm)
    have hrow : (strRow marksL)[k]? = some [.string m] := by simp [strRow, hm]
    have key : ∀ b : Bool, b = (decide ((m.size : Int) ≤ (s.size : Int) - i) && decide (bSub s (i : Int).toNat ((i : Int) + m.size).toNat = m)) → b = preB (bSub s i s.size) m := fun b hb => by
      rw [hb]
      unfold preB
      by_cases h1 : (m.size : Int) ≤ (s.size : Int) - i
      · have h2 : m.size ≤ (bSub s i s.size).size := by omega
        rw [decide_eq_true h1, decide_eq_true h2, sub_sub (by omega)]
        rfl
      · have h2 : ¬ m.size ≤ (bSub s i s.size).size := by omega
        rw [decide_eq_false h1, decide_eq_false h2]; rfl
    repeat (first | refine byW ?_ | (refine byV ?_; intro w hw))
    refine W_quiet (by kernel_rfl) (by kernel_rfl) hw ?_
    repeat (first | refine Q_nil ?_ | (apply Q_plain; first | (apply Q_go; first | refine qP ?_ | refine qPg ?_) | refine qY ?_) | (apply Q_guarded; first | (apply Q_go; first | refine qPG ?_ | refine qPgG ?_) | refine qG ?_))
    intro w hw
    refine W_cond rfl (fun h2 => ?_) (fun h2 => ?_)
    · have hp : preB (bSub s i s.size) m = true := (key _ rfl).symm.trans h2
      repeat (first | refine byW ?_ | (refine byV ?_; intro w hw))
      exact ⟨_, rfl, m, rfl, (marks_at hm hp hj).symm, hw.drop⟩
    · have hp : preB (bSub s i s.size) m = false := (key _ rfl).symm.trans h2
      repeat (first | refine byW ?_ | (refine byV ?_; intro w hw))
      refine ⟨μ - 1, by omega, k + 1, by omega, fun j m' hjk hm' => ?_, ⟨rfl, rfl, rfl, rfl, trivial⟩, hw⟩
      rcases Nat.lt_succ_iff_lt_or_eq.1 hjk with hlt | rfl
      · exact hj j m' hlt hm'
      · rw [hm] at hm'; cases hm'; exact hp
  · have hkn : k = 24 := by have := of_decide_eq_false h; omega
    have h0 : punctN (bSub s i s.size) = 0 := marks_none fun m hm => by
      obtain ⟨j, hj2⟩ := List.getElem?_of_mem hm
      exact hj j m (by have := (List.getElem?_eq_some_iff.1 hj2).1; have e : marksL.length = 24 := rfl; omega) hj2
    repeat (first | refine byW ?_ | (refine byV ?_; intro w hw))
    exact ⟨_, rfl, ⟨#[]⟩, rfl, h0.symm, hw.drop⟩
end Go.Proofs.YtnkekcippfdbgaaGreat
end
/- The reference's lexer: the end of a token; the position of an offset. -/
section
open Go Mk
namespace Go.Proofs.YtnkekcippfdbgaaGreat
set_option maxHeartbeats 4000000
attribute [local irreducible] Calls punctN posAt

/-- The length of the token with which t begins, or 0. -/
def endN (t : ByteArray) : Nat :=
  if letterB (byteAt t 0) = true ∨ digitB (byteAt t 0) = true then runN t
  else if byteAt t 0 = 34 then (if strN t < t.size ∧ byteAt t (strN t) = 34 then strN t + 1 else 0)
  else punctN t
theorem ret_i2 {k : IntKind} {a b : Int} (h : a = b) : Ending.returned (.int k a) = Ending.returned (.int k b) := by rw [h]
theorem end_any {Γ : Gho} {S : List Res} {w : World} (s : ByteArray) (i : Nat) (hi : i < s.size) (hs : s.size ≤ 4611686018427387904) (hw : Wd Γ S w) :
    Calls Tryz.prog 122 #[.string s, .int .i64 i] w fun e w' => e = .returned (.int .i64 ((i + endN (bSub s i s.size) : Nat) : Int)) ∧ Wd Γ S w' := by
  refine calls_of_W Tryz.func122 rfl rfl ?_
  have hsz : (bSub s i s.size).size = s.size - i := sub_size (Nat.le_refl _)
  have hby : ∀ j, i + j < s.size → byteAt (bSub s i s.size) j = byteAt s (i + j) := fun j hj => byte_sub hj
  have hgt : ∀ j, i + j < s.size → (bSub s i s.size).data.toList.getD j 0 = s.data.toList.getD (i + j) 0 := fun j hj => by
    have := hby j hj
    unfold byteAt at this
    exact UInt8.toNat_inj.1 (by omega)
  have hlen := size_toList (bSub s i s.size)
  have hb0 : byteAt (bSub s i s.size) 0 = byteAt s i := by simpa using hby 0 (by omega)
  obtain ⟨t, ht⟩ : ∃ t, t = bSub s i s.size := ⟨_, rfl⟩
  rw [← ht] at hsz hby hgt hlen hb0 ⊢
  repeat (first | refine byW ?_ | (refine byV ?_; intro w hw))
  refine W_cond rfl (fun h => ?_) (fun h => ?_)
  · have h : letterB (byteAt t 0) = true ∨ digitB (byteAt t 0) = true := by
      rw [hb0]
      have h' : (letterB (byteAt s i) || digitB (byteAt s i)) = true := h
      simpa using h'
    have hE : endN t = runN t := by unfold endN; rw [if_pos h]
    rw [hE]
    repeat (first | refine byW ?_ | (refine byV ?_; intro w hw))
    refine W_loop (fun μ ρ w => ∃ (k : Nat), μ + (i + k) = s.size ∧ (∀ j, j < k → wordC (t.data.toList.getD j 0) = true) ∧ Has ρ [(0, .string s), (5, .int .i64 ((i + k : Nat) : Int))] ∧ Wd Γ S w) (s.size - i) ⟨0, by omega, by simp, ⟨rfl, rfl, trivial⟩, hw⟩ ?_
    clear hw h
    rintro μ ρ w ⟨k, hk, hall, hρ, hw⟩
    rw [hρ.eq]
    repeat (first | refine byW ?_ | (refine byV ?_; intro w hw))
    refine W_cond rfl (fun h => ?_) (fun h => ?_)
    · have h' := andL h
      simp only [decide_eq_true_eq] at h'
      have h2 : wordC (s.data.toList.getD (i + k) 0) = true := andR h
      repeat (first | refine byW ?_ | (refine byV ?_; intro w hw))
      refine ⟨μ - 1, by omega, k + 1, by omega, fun j hj => ?_, ⟨rfl, by push_cast; rfl, trivial⟩, hw⟩
      by_cases e : j = k
      · subst e; rw [hgt j (by omega)]; exact h2
      · exact hall j (by omega)
    · have hr := takeWhile_len (p := wordC) (l := t.data.toList) (k := k) (by omega) hall (fun hk' => by
        rw [hgt k (by omega)]
        rw [show decide (((i + k : Nat) : Int) < (s.size : Int)) = true from by simp; omega] at h
        exact h)
      repeat (first | refine byW ?_ | (refine byV ?_; intro w hw))
      refine ⟨_, rfl, ret_i2 ?_, hw⟩
      show ((i + k : Nat) : Int) = _
      unfold runN
      rw [hr]
  have h1 : ¬ (letterB (byteAt t 0) = true ∨ digitB (byteAt t 0) = true) := by
    rw [hb0]
    have h' : (letterB (byteAt s i) || digitB (byteAt s i)) = false := h
    simpa using h'
  repeat (first | refine byW ?_ | (refine byV ?_; intro w hw))
  refine W_cond rfl (fun h2 => ?_) (fun h2 => ?_)
  · have h2 : byteAt t 0 = 34 := by rw [hb0]; exact of_decide_eq_true h2
    have hE : endN t = if strN t < t.size ∧ byteAt t (strN t) = 34 then strN t + 1 else 0 := by unfold endN; rw [if_neg h1, if_pos h2]
    repeat (first | refine byW ?_ | (refine byV ?_; intro w hw))
    refine W_loop (fun μ ρ w => ∃ (k : Nat), 1 ≤ k ∧ μ + (i + k) = s.size ∧ (∀ j, 1 ≤ j → j < k → inStr (byteAt t j) = true) ∧ Has ρ [(0, .string s), (1, .int .i64 i), (5, .int .i64 ((i + k : Nat) : Int))] ∧ Wd Γ S w) (s.size - i - 1) ⟨1, by omega, by omega, fun j h1 h2 => by omega, ⟨rfl, rfl, by push_cast; rfl, trivial⟩, hw⟩ ?_
    clear hw h
    rintro μ ρ w ⟨k, hk1, hk, hall, hρ, hw⟩
    rw [hρ.eq]
    repeat (first | refine byW ?_ | (refine byV ?_; intro w hw))
    refine W_cond rfl (fun h => ?_) (fun h => ?_)
    · have h' := andL h
      simp only [decide_eq_true_eq] at h'
      have h3 : inStr (byteAt s (i + k)) = true := andR h
      repeat (first | refine byW ?_ | (refine byV ?_; intro w hw))
      refine ⟨μ - 1, by omega, k + 1, by omega, by omega, fun j hj1 hj => ?_, ⟨rfl, rfl, by push_cast; rfl, trivial⟩, hw⟩
      by_cases e : j = k
      · subst e; rw [hby j (by omega)]; exact h3
      · exact hall j hj1 (by omega)
    · have hr := strN_eq (s := t) (k := k) hk1 (by omega) hall (fun hk' => by
        rw [hby k (by omega)]
        rw [show decide (((i + k : Nat) : Int) < (s.size : Int)) = true from by simp; omega] at h
        exact h)
      rw [hr] at hE
      repeat (first | refine byW ?_ | (refine byV ?_; intro w hw))
      refine W_cond rfl (fun h3 => ?_) (fun h3 => ?_)
      · have h3' := andL h3
        simp only [decide_eq_true_eq] at h3'
        have h4 : byteAt s (i + k) = 34 := of_decide_eq_true (andR h3)
        rw [if_pos ⟨by omega, by rw [hby k (by omega)]; exact h4⟩] at hE
        repeat (first | refine byW ?_ | (refine byV ?_; intro w hw))
        refine ⟨_, rfl, ret_i2 ?_, hw⟩
        rw [hE]; push_cast; omega
      · rw [if_neg (fun hh => by
          rw [hby k (by omega)] at hh
          have q : (decide (((i + k : Nat) : Int) < (s.size : Int)) && decide (byteAt s (i + k) = 34)) = true := by
            simp only [Bool.and_eq_true, decide_eq_true_eq]
            exact ⟨by omega, hh.2⟩
          exact absurd (q.symm.trans h3) (by decide))] at hE
        repeat (first | refine byW ?_ | (refine byV ?_; intro w hw))
        refine ⟨_, rfl, ret_i2 ?_, hw⟩
        rw [hE]; rfl
  have h2 : ¬ byteAt t 0 = 34 := by rw [hb0]; exact of_decide_eq_false h2
  have hE : endN t = punctN t := by unfold endN; rw [if_neg h1, if_neg h2]
  repeat (first | refine byW ?_ | (refine byV ?_; intro w hw))
  refine lCall ?_
  refine (mark_any s i hi hs hw).mono ?_
  clear hw
  rintro e w ⟨m, rfl, hm, hw⟩
  refine ⟨_, rfl, ?_⟩
  rw [← ht] at hm
  have hp := punctN_le t
  repeat (first | refine byW ?_ | (refine byV ?_; intro w hw))
  refine ⟨_, rfl, ret_i2 ?_, hw⟩
  rw [hE, hm]; push_cast; rfl
theorem At_any {Γ : Gho} {S : List Res} {w : World} (s : ByteArray) (n : Nat) (hn : n ≤ s.size) (hs : s.size ≤ 4611686018427387904) (hw : Wd Γ S w) :
    Calls Tryz.prog 84 #[.string s, .int .i64 n] w fun e w' => e = .returned (.agg (enc (posAt s n)).toArray) ∧ Wd Γ S w' := by
  refine calls_of_WC Tryz.func84 rfl rfl ?_
  repeat (first | refine byW ?_ | (refine byV ?_; intro w hw))
  refine lAlloc ?_
  intro b1 w hw
  repeat (first | refine byW ?_ | (refine byV ?_; intro w hw))
  refine lAlloc ?_
  intro b2 w hw
  refine lStore ?_
  intro w hw
  have p0 : posAt s 0 = ⟨1, 1⟩ := by unfold posAt; rfl
  have hw : Wd Γ (.blk b2 (.cells (enc (posAt s 0)).toArray 31) :: .blk b1 (.cells (enc (⟨0, 0⟩ : PosT)).toArray 31) :: S) w := by rw [p0]; exact hw
  repeat (first | refine byW ?_ | (refine byV ?_; intro w hw))
  refine W_loop (fun μ ρ w => ∃ (k : Nat), μ + k = n ∧ (posAt s k).Line ≤ 1 + k ∧ (posAt s k).Col ≤ 1 + k ∧ 0 ≤ (posAt s k).Line ∧ 0 ≤ (posAt s k).Col ∧ Has ρ [(0, .string s), (1, .int .i64 n), (4, .pointer (some ⟨b1, 0, none⟩)), (5, .pointer (some ⟨b2, 0, none⟩)), (6, .int .i64 (k : Nat))] ∧ Wd Γ (.blk b2 (.cells (enc (posAt s k)).toArray 31) :: .blk b1 (.cells (enc (⟨0, 0⟩ : PosT)).toArray 31) :: S) w) n ⟨0, by omega, by rw [p0]; decide, by rw [p0]; decide, by rw [p0]; decide, by rw [p0]; decide, ⟨rfl, rfl, rfl, rfl, rfl, trivial⟩, hw⟩ ?_
  clear hw
  rintro μ ρ w ⟨k, hk, hl, hc, hl0, hc0, hρ, hw⟩
  rw [hρ.eq]
  repeat (first | refine byW ?_ | (refine byV ?_; intro w hw))
  refine W_cond rfl (fun h => ?_) (fun h => ?_)
  · have h' := andL h
    simp only [decide_eq_true_eq] at h'
    have hp1 : byteAt s k ≠ 10 → posAt s (k + 1) = ⟨(posAt s k).Line, (posAt s k).Col + 1⟩ := fun q => by
      have := posAt_run (s := s) (off := k) 1 (fun i hi => by rw [show k + i = k from by omega]; exact q)
      simpa using this
    have hp2 : byteAt s k = 10 → posAt s (k + 1) = ⟨(posAt s k).Line + 1, 1⟩ := posAt_nl
    repeat (first | refine byW ?_ | (refine byV ?_; intro w hw))
    refine lStore ?_
    intro w hw
    have hw : Wd Γ (.blk b2 (.cells #[.int .i64 (posAt s k).Line, .int .i64 ((posAt s k).Col + 1)] 31) :: .blk b1 (.cells (enc (⟨0, 0⟩ : PosT)).toArray 31) :: S) w := hw
    repeat (first | refine byW ?_ | (refine byV ?_; intro w hw))
    refine W_cond rfl (fun h2 => ?_) (fun h2 => ?_)
    · have h2 : byteAt s k = 10 := of_decide_eq_true h2
      repeat (first | refine byW ?_ | (refine byV ?_; intro w hw))
      refine lStore ?_
      intro w hw
      have hw : Wd Γ (.blk b2 (.cells (enc (posAt s (k + 1))).toArray 31) :: .blk b1 (.cells (enc (⟨0, 0⟩ : PosT)).toArray 31) :: S) w := by rw [hp2 h2]; exact hw
      repeat (first | refine byW ?_ | (refine byV ?_; intro w hw))
      exact ⟨μ - 1, by omega, k + 1, by omega, by rw [hp2 h2]; dsimp; omega, by rw [hp2 h2]; dsimp; omega, by rw [hp2 h2]; dsimp; omega, by rw [hp2 h2]; dsimp; omega, ⟨rfl, rfl, rfl, rfl, rfl, trivial⟩, hw⟩
    · have h2 : ¬ byteAt s k = 10 := of_decide_eq_false h2
      have hw : Wd Γ (.blk b2 (.cells (enc (posAt s (k + 1))).toArray 31) :: .blk b1 (.cells (enc (⟨0, 0⟩ : PosT)).toArray 31) :: S) w := by rw [hp1 h2]; exact hw
      repeat (first | refine byW ?_ | (refine byV ?_; intro w hw))
      exact ⟨μ - 1, by omega, k + 1, by omega, by rw [hp1 h2]; dsimp; omega, by rw [hp1 h2]; dsimp; omega, by rw [hp1 h2]; dsimp; omega, by rw [hp1 h2]; dsimp; omega, ⟨rfl, rfl, rfl, rfl, rfl, trivial⟩, hw⟩
  · have hkn : k = n := by
      have q : ¬ (k < n) := fun hh => by
        have q : (decide ((k : Int) < n) && decide ((k : Int) < s.size)) = true := by
          simp only [Bool.and_eq_true, decide_eq_true_eq]; omega
        exact absurd (q.symm.trans h) (by decide)
      omega
    rw [hkn] at hw
    repeat (first | refine byW ?_ | (refine byV ?_; intro w hw))
    refine lStore ?_
    intro w hw
    have hw : Wd Γ (.blk b2 (.cells (enc (posAt s n)).toArray 31) :: .blk b1 (.cells (enc (posAt s n)).toArray 31) :: S) w := hw
    repeat (first | refine byW ?_ | (refine byV ?_; intro w hw))
    exact ⟨[.agg (enc (posAt s n)).toArray], ⟨resC (i := 1) hw rfl rfl rfl, trivial⟩, rfl, hw.drop.drop⟩
end Go.Proofs.YtnkekcippfdbgaaGreat
end
/- The reference's lexer: Scan answers as the program's. -/
section
open Go Mk
namespace Go.Proofs.YtnkekcippfdbgaaGreat
set_option maxHeartbeats 8000000
attribute [local irreducible] Calls numS punctN tokS posAt skipN endN

theorem endN_le (t : ByteArray) : endN t ≤ t.size := by
  unfold endN
  split
  · exact runN_le t
  · split
    · split
      · rename_i h; omega
      · omega
    · exact punctN_le t
theorem tok_end0 {t : ByteArray} (h0 : 0 < t.size) (h : endN t = 0) : (tokS t).err = 50 := by
  unfold endN at h
  unfold tokS
  by_cases h1 : letterB (byteAt t 0) = true
  · rw [if_pos (.inl h1)] at h
    have : wordC (t.data.toList.getD 0 0) = true := by show (letterB (byteAt t 0) || _) = true; rw [h1]; rfl
    have := runN_pos h0 this
    omega
  · by_cases h2 : digitB (byteAt t 0) = true
    · rw [if_pos (.inr h2)] at h
      have : wordC (t.data.toList.getD 0 0) = true := by show (_ || digitB (byteAt t 0)) = true; rw [h2, Bool.or_true]
      have := runN_pos h0 this
      omega
    · rw [if_neg (by rintro (q | q) <;> contradiction)] at h
      rw [if_neg h1, if_neg h2]
      by_cases h3 : byteAt t 0 = 34
      · rw [if_pos h3] at h ⊢
        by_cases h4 : strN t < t.size ∧ byteAt t (strN t) = 34
        · rw [if_pos h4] at h; omega
        · rw [if_neg h4]; rfl
      · rw [if_neg h3] at h ⊢
        rw [if_pos h]; rfl
theorem endN_ld {t : ByteArray} (h : letterB (byteAt t 0) = true ∨ digitB (byteAt t 0) = true) : endN t = runN t := by unfold endN; rw [if_pos h]
theorem endN_34 {t : ByteArray} (h1 : ¬ letterB (byteAt t 0) = true) (h2 : ¬ digitB (byteAt t 0) = true) (h : byteAt t 0 = 34) : endN t = if strN t < t.size ∧ byteAt t (strN t) = 34 then strN t + 1 else 0 := by
  unfold endN; rw [if_neg (fun q => q.elim h1 h2), if_pos h]
theorem endN_p {t : ByteArray} (h1 : ¬ letterB (byteAt t 0) = true) (h2 : ¬ digitB (byteAt t 0) = true) (h : ¬ byteAt t 0 = 34) : endN t = punctN t := by
  unfold endN; rw [if_neg (fun q => q.elim h1 h2), if_neg h]
theorem tok_let {t : ByteArray} (h : letterB (byteAt t 0) = true) : tokS t = ⟨1, bSub t 0 (endN t), 0, endN t, 0⟩ := by
  rw [endN_ld (.inl h)]; unfold tokS; rw [if_pos h]
theorem tok_dig {t : ByteArray} (h1 : ¬ letterB (byteAt t 0) = true) (h : digitB (byteAt t 0) = true) : tokS t = if (numS (bSub t 0 (endN t))).2 = 0 then ⟨2, ⟨#[]⟩, (numS (bSub t 0 (endN t))).1, endN t, 0⟩ else tokErr (numS (bSub t 0 (endN t))).2 := by
  rw [endN_ld (.inr h)]; unfold tokS; rw [if_neg h1, if_pos h]
theorem tok_str {t : ByteArray} (h1 : ¬ letterB (byteAt t 0) = true) (h2 : ¬ digitB (byteAt t 0) = true) (h : byteAt t 0 = 34) (he : endN t ≠ 0) : tokS t = ⟨3, bSub t 1 (endN t - 1), 0, endN t, 0⟩ := by
  rw [endN_34 h1 h2 h] at he ⊢
  unfold tokS
  rw [if_neg h1, if_neg h2, if_pos h]
  by_cases h4 : strN t < t.size ∧ byteAt t (strN t) = 34
  · rw [if_pos h4, if_pos h4]; rfl
  · rw [if_neg h4] at he; exact absurd rfl he
theorem tok_pun {t : ByteArray} (h1 : ¬ letterB (byteAt t 0) = true) (h2 : ¬ digitB (byteAt t 0) = true) (h3 : ¬ byteAt t 0 = 34) (he : endN t ≠ 0) : tokS t = ⟨4, bSub t 0 (endN t), 0, endN t, 0⟩ := by
  rw [endN_p h1 h2 h3] at he ⊢
  unfold tokS
  rw [if_neg h1, if_neg h2, if_neg h3, if_neg he]
theorem quote_nl : ¬ letterB 34 = true ∧ ¬ digitB 34 = true := by decide

theorem RScan_any (Γ : Gho) (S : List Res) (w : World) (s : ByteArray) (hs : s.size ≤ 4611686018427387904) (hw : Wd Γ S w) :
    Calls Tryz.prog 80 #[.string s] w fun e w' => ∃ v, e = .returned (.tuple #[v, .agg (enc (scanS s).2.1).toArray, .int .i64 (scanS s).2.2]) ∧ Wd Γ (.own v 63 5 ((scanS s).1.map enc) :: S) w' := by
  refine calls_of_WC Tryz.func80 rfl rfl ?_
  repeat (first | refine byW ?_ | (refine byV ?_; intro w hw))
  refine lAlloc ?_
  intro b3 w hw
  have hw : Wd Γ (.blk b3 (.cells (enc (⟨0, 0⟩ : PosT)).toArray 31) :: S) w := hw
  repeat (first | refine byW ?_ | (refine byV ?_; intro w hw))
  refine W_cond rfl (fun h => ?_) (fun h => ?_)
  · have h : 65536 < s.size := by simp at h; omega
    have hS : scanS s = ([], ⟨0, 0⟩, 15) := by unfold scanS; rw [if_pos h]
    rw [hS]
    repeat (first | refine byW ?_ | (refine byV ?_; intro w hw))
    refine lStore ?_
    intro w hw
    have hw : Wd Γ (.blk b3 (.cells (enc (⟨0, 0⟩ : PosT)).toArray 31) :: S) w := hw
    repeat (first | refine byW ?_ | (refine byV ?_; intro w hw))
    exact ⟨[.slice none 0 0, .agg (enc (⟨0, 0⟩ : PosT)).toArray, .int .i64 15], ⟨rfl, resC (i := 0) hw rfl rfl rfl, rfl, trivial⟩, _, rfl, Wd.addNil hw.drop⟩
  have h : ¬ 65536 < s.size := by simp at h; omega
  have hS : scanS s = scanN s (s.size + 1) 0 [] := by unfold scanS; rw [if_neg h]
  rw [hS]
  clear hS
  repeat (first | refine byW ?_ | (refine byV ?_; intro w hw))
  refine lAlloc ?_
  intro b6 w hw
  refine lStore ?_
  intro w hw
  have p0 : posAt s 0 = ⟨1, 1⟩ := by unfold posAt; rfl
  have hw : Wd Γ (.blk b6 (.cells (enc (posAt s 0)).toArray 31) :: .blk b3 (.cells (enc (⟨0, 0⟩ : PosT)).toArray 31) :: S) w := by rw [p0]; exact hw
  repeat (first | refine byW ?_ | (refine byV ?_; intro w hw))
  refine W_loop (fun μ ρ w => ∃ (i : Nat) (g : Value) (toks : List Tok), i ≤ s.size ∧ s.size < μ + i ∧ (posAt s i).Line ≤ 1 + i ∧ (posAt s i).Col ≤ 1 + i ∧ 0 ≤ (posAt s i).Line ∧ 0 ≤ (posAt s i).Col ∧ toks.length ≤ i ∧ scanN s (s.size + 1) 0 [] = scanN s μ i toks ∧ Has ρ [(0, .string s), (3, .pointer (some ⟨b3, 0, none⟩)), (5, g), (6, .pointer (some ⟨b6, 0, none⟩)), (7, .int .i64 i)] ∧ Wd Γ (.own g 63 5 (toks.map enc) :: .blk b6 (.cells (enc (posAt s i)).toArray 31) :: .blk b3 (.cells (enc (⟨0, 0⟩ : PosT)).toArray 31) :: S) w) (s.size + 1) ?_ ?_
  · exact ⟨0, .slice none 0 0, [], by omega, by omega, by rw [p0]; decide, by rw [p0]; decide, by rw [p0]; decide, by rw [p0]; decide, by simp, rfl, ⟨rfl, rfl, rfl, rfl, rfl, trivial⟩, Wd.addNil hw⟩
  clear hw
  rintro μ ρ w ⟨i, g, toks, ho, hμ, hl1, hc1, hl0, hc0, htl, hN, hρ, hw⟩
  rw [hρ.eq]
  obtain ⟨f, rfl⟩ : ∃ f, μ = f + 1 := ⟨μ - 1, by omega⟩
  rw [hN]
  clear hN hρ
  repeat (first | refine byW ?_ | (refine byV ?_; intro w hw))
  refine W_cond rfl (fun h1 => ?_) (fun h1 => ?_)
  · have hi : i < s.size := by simpa using h1
    have hsz : (bSub s i s.size).size = s.size - i := sub_size (Nat.le_refl _)
    have hb0 : byteAt (bSub s i s.size) 0 = byteAt s i := by have := byte_sub (s := s) (a := i) (b := s.size) (j := 0) (by omega); simpa using this
    have hee := endN_le (bSub s i s.size)
    repeat (first | refine byW ?_ | (refine byV ?_; intro w hw))
    refine W_cutT (fun ρ w => ∃ (k : Nat) (g : Value) (toks' : List Tok), i < k ∧ k ≤ s.size ∧ toks'.length ≤ i + 1 ∧ scanN s (f + 1) i toks = scanN s f k toks' ∧ Has ρ [(0, .string s), (3, .pointer (some ⟨b3, 0, none⟩)), (5, g), (6, .pointer (some ⟨b6, 0, none⟩)), (7, .int .i64 i), (9, .int .i64 k)] ∧ Wd Γ (.own g 63 5 (toks'.map enc) :: .blk b6 (.cells (enc (posAt s i)).toArray 31) :: .blk b3 (.cells (enc (⟨0, 0⟩ : PosT)).toArray 31) :: S) w) ?_ ?_
    · refine W_cond rfl (fun h2 => ?_) (fun h2 => ?_)
      · have h2 : byteAt s i = 35 := of_decide_eq_true h2
        have hsk : scanN s (f + 1) i toks = scanN s f (skipN s i) toks := by
          show (if s.size ≤ i then _ else _) = _
          rw [if_neg (by omega), if_neg (by rw [h2]; decide), if_pos h2]
        repeat (first | refine byW ?_ | (refine byV ?_; intro w hw))
        refine W_loop (fun μ ρ w => ∃ k : Nat, μ + k = s.size ∧ i < k ∧ Has ρ [(0, .string s), (3, .pointer (some ⟨b3, 0, none⟩)), (5, g), (6, .pointer (some ⟨b6, 0, none⟩)), (7, .int .i64 i), (9, .int .i64 k)] ∧ (∀ j, i ≤ j → j < k → byteAt s j ≠ 10) ∧ Wd Γ (.own g 63 5 (toks.map enc) :: .blk b6 (.cells (enc (posAt s i)).toArray 31) :: .blk b3 (.cells (enc (⟨0, 0⟩ : PosT)).toArray 31) :: S) w) (s.size - (i + 1)) ⟨i + 1, by omega, by omega, ⟨rfl, rfl, rfl, rfl, rfl, by push_cast; rfl, trivial⟩, fun j q1 q2 => by (have : j = i := by omega); subst this; rw [h2]; decide, hw⟩ ?_
        clear hw
        rintro μ2 ρ w ⟨k, hk, hk1, hρ, hall, hw⟩
        rw [hρ.eq]
        repeat (first | refine byW ?_ | (refine byV ?_; intro w hw))
        refine W_cond rfl (fun h4 => ?_) (fun h4 => ?_)
        · have h4 : k < s.size ∧ byteAt s k ≠ 10 := by
            rw [Bool.and_eq_true, decide_eq_true_eq] at h4
            exact ⟨by omega, of_decide_eq_true h4.2⟩
          have hkl := h4.1
          repeat (first | refine byW ?_ | (refine byV ?_; intro w hw))
          refine ⟨μ2 - 1, by omega, k + 1, by omega, by omega, ⟨rfl, rfl, rfl, rfl, rfl, rfl, trivial⟩, fun j q1 q2 => ?_, hw⟩
          by_cases e : j = k
          · subst e; exact h4.2
          · exact hall j q1 (by omega)
        · have hend : k < s.size → byteAt s k = 10 := fun hlt => by
            have q1 : decide ((k : Int) < s.size) = true := by simp; omega
            rw [q1, Bool.true_and] at h4
            have := of_decide_eq_false h4
            exact Classical.not_not.1 this
          have hks : skipN s i = k := skipN_eq (by omega) (by omega) hall hend
          repeat (first | refine byW ?_ | (refine byV ?_; intro w hw))
          exact ⟨k, g, toks, by omega, by omega, by omega, by rw [hsk, hks], ⟨rfl, rfl, rfl, rfl, rfl, rfl, trivial⟩, hw⟩
      have h2 : byteAt s i ≠ 35 := of_decide_eq_false h2
      repeat (first | refine byW ?_ | (refine byV ?_; intro w hw))
      refine W_cond rfl (fun h3 => ?_) (fun h3 => ?_)
      rotate_left
      · have hsp : spaceB (byteAt s i) = true := by
          unfold spaceB
          have h3 : (decide (byteAt s i ≠ 32) && decide (byteAt s i ≠ 9) && decide (byteAt s i ≠ 10) && decide (byteAt s i ≠ 13)) = false := h3
          by_cases q1 : byteAt s i = 32 <;> by_cases q2 : byteAt s i = 9 <;> by_cases q3 : byteAt s i = 10 <;> by_cases q4 : byteAt s i = 13 <;> simp_all
        repeat (first | refine byW ?_ | (refine byV ?_; intro w hw))
        refine ⟨i + 1, g, toks, by omega, by omega, by omega, ?_, ⟨rfl, rfl, rfl, rfl, rfl, by push_cast; rfl, trivial⟩, hw⟩
        show (if s.size ≤ i then _ else _) = _
        rw [if_neg (by omega), if_pos hsp]
      have hns : ¬ spaceB (byteAt s i) = true := by
        have h3 : (decide (byteAt s i ≠ 32) && decide (byteAt s i ≠ 9) && decide (byteAt s i ≠ 10) && decide (byteAt s i ≠ 13)) = true := h3
        unfold spaceB
        simp only [Bool.and_eq_true, decide_eq_true_eq] at h3
        simp [h3]
      have hstep : scanN s (f + 1) i toks = if (tokS (bSub s i s.size)).err = 0 then scanN s f (i + (tokS (bSub s i s.size)).n) (toks ++ [⟨(tokS (bSub s i s.size)).kind, (tokS (bSub s i s.size)).text, (tokS (bSub s i s.size)).value, (posAt s i).Line, (posAt s i).Col⟩]) else ([], posAt s i, (tokS (bSub s i s.size)).err) := by
        show (if s.size ≤ i then _ else _) = _
        rw [if_neg (by omega), if_neg hns, if_neg h2]
      rw [hstep]
      clear hstep h3
      repeat (first | refine byW ?_ | (refine byV ?_; intro w hw))
      refine lCall ?_
      refine (end_any s i hi hs hw).mono ?_
      clear hw
      rintro e w ⟨rfl, hw⟩
      refine ⟨_, rfl, ?_⟩
      obtain ⟨t, ht⟩ : ∃ t, t = bSub s i s.size := ⟨_, rfl⟩
      rw [← ht] at hsz hb0 hee ⊢
      have hsub : ∀ c d, c ≤ d → i + d ≤ s.size → bSub t c d = bSub s (i + c) (i + d) := fun c d _ h2 => by rw [ht]; exact sub_sub h2
      repeat (first | refine byW ?_ | (refine byV ?_; intro w hw))
      refine W_cond rfl (fun h4 => ?_) (fun h4 => ?_)
      · have h4 : endN t = 0 := by have := of_decide_eq_true h4; omega
        have hE := tok_end0 (t := t) (by omega) h4
        rw [hE, if_neg (by decide)]
        repeat (first | refine byW ?_ | (refine byV ?_; intro w hw))
        refine W_mixC [.own _ _ _ _, .blk b6 _] (.blk b3 _ :: S) [] [[],[],[0],[]] hw ?_
        repeat (first | refine mY ?_ | refine mP ?_ | refine mPg ?_)
        refine mStepX (φ := fun (_ : Unit) _ => True) (R := fun _ => .blk b3 (.cells (enc (⟨0, 0⟩ : PosT)).toArray 31) :: S) (v := undef) (T' := Unit) (fun _ _ => True) (fun _ => .blk b3 (.cells (enc (posAt s i)).toArray 31) :: S) (fun t' g w Y _ hw => s_store (i := 0) (inferInstance : TSz Tryz.prog 31 2).h hw rfl (v := .agg (enc (posAt s i)).toArray) rfl (vs := enc (posAt s i)) rfl rfl (fun u hu => (List.all_eq_true.1 (enc_one (posAt s i))) u hu) rfl (Nat.le_of_ble_eq_true rfl) fun w' hw' => ⟨(), trivial, fun _ => rfl, hw'⟩) ?_
        repeat (first | refine mY ?_ | refine mP ?_ | refine mPg ?_)
        refine mEndX fun t' w g _ hw => ?_
        have hw : Wd Γ (.blk b3 (.cells (enc (posAt s i)).toArray 31) :: S) w := Wd.left (S := .blk b3 _ :: S) hw
        repeat (first | refine byW ?_ | (refine byV ?_; intro w hw))
        exact ⟨[.slice none 0 0, .agg (enc (posAt s i)).toArray, .int .i64 50], ⟨rfl, resC (i := 0) hw rfl rfl rfl, rfl, trivial⟩, _, rfl, Wd.addNil hw.drop⟩
      have h4 : endN t ≠ 0 := by have := of_decide_eq_false h4; omega
      obtain ⟨kk, hkk⟩ : ∃ kk, kk = endN t := ⟨_, rfl⟩
      rw [← hkk] at h4 hee ⊢
      repeat (first | refine byW ?_ | (refine byV ?_; intro w hw))
      refine W_mixE 1 [[],[],[],[],[],[],[0],[0]] [[],[],[],[],[],[],[0],[0]] [[10]] ?_
      repeat (first | refine mY ?_ | refine mP ?_ | refine mEndAt ?_ | refine mEnd0 ?_ | refine mEnd ?_)
      refine mY (v := .agg #[.int .i64 4, .string (bSub s i (i + kk)), .int .u64 0, .int .i64 (posAt s i).Line, .int .i64 (posAt s i).Col]) ?_ (hy := fun Y w g hw => y_build rfl)
      refine mAlloc ?_
      refine mStoreAt ?_
      repeat (first | refine mY ?_ | refine mP ?_ | refine mEndAt ?_ | refine mEnd0 ?_ | refine mEnd ?_)
      intro b10 w hw
      have hw : Wd Γ (.blk b10 (.cells #[.int .i64 4, .string (bSub s i (i + kk)), .int .u64 0, .int .i64 (posAt s i).Line, .int .i64 (posAt s i).Col] 63) :: .own g 63 5 (toks.map enc) :: .blk b6 (.cells (enc (posAt s i)).toArray 31) :: .blk b3 (.cells (enc (⟨0, 0⟩ : PosT)).toArray 31) :: S) w := hw
      have hb34 := quote_nl
      repeat (first | refine byW ?_ | (refine byV ?_; intro w hw))
      refine W_cutB (fun ρ w => ∃ tk : Tok, (tokS t).err = 0 ∧ tk = ⟨(tokS t).kind, (tokS t).text, (tokS t).value, (posAt s i).Line, (posAt s i).Col⟩ ∧ (tokS t).n = kk ∧ Has ρ [(0, .string s), (3, .pointer (some ⟨b3, 0, none⟩)), (5, g), (6, .pointer (some ⟨b6, 0, none⟩)), (7, .int .i64 i), (9, .int .i64 ((i + kk : Nat) : Int)), (10, .pointer (some ⟨b10, 0, none⟩))] ∧ Wd Γ (.blk b10 (.cells (enc tk).toArray 63) :: .own g 63 5 (toks.map enc) :: .blk b6 (.cells (enc (posAt s i)).toArray 31) :: .blk b3 (.cells (enc (⟨0, 0⟩ : PosT)).toArray 31) :: S) w) ?_ ?_
      · refine W_cond rfl (fun h5 => ?_) (fun h5 => ?_)
        · have hT := tok_let (t := t) (by rw [hb0]; exact h5)
          rw [← hkk, hsub 0 kk (by omega) (by omega)] at hT
          repeat (first | refine byW ?_ | (refine byV ?_; intro w hw))
          refine lStore ?_
          intro w hw
          have hw : Wd Γ (.blk b10 (.cells #[.int .i64 1, .string (bSub s i (i + kk)), .int .u64 0, .int .i64 (posAt s i).Line, .int .i64 (posAt s i).Col] 63) :: .own g 63 5 (toks.map enc) :: .blk b6 (.cells (enc (posAt s i)).toArray 31) :: .blk b3 (.cells (enc (⟨0, 0⟩ : PosT)).toArray 31) :: S) w := hw
          repeat (first | refine byW ?_ | (refine byV ?_; intro w hw))
          rw [hT]
          exact ⟨⟨1, bSub s i (i + kk), 0, (posAt s i).Line, (posAt s i).Col⟩, rfl, rfl, rfl, ⟨rfl, rfl, rfl, rfl, rfl, rfl, rfl, trivial⟩, hw⟩
        have h5 : ¬ letterB (byteAt t 0) = true := by
          rw [hb0]
          have h5 : letterB (byteAt s i) = false := h5
          rw [h5]; decide
        repeat (first | refine byW ?_ | (refine byV ?_; intro w hw))
        refine W_cond rfl (fun h6 => ?_) (fun h6 => ?_)
        · have h6 : byteAt t 0 = 34 := by rw [hb0]; exact of_decide_eq_true h6
          have hT := tok_str h5 (by rw [h6]; exact hb34.2) h6 (by rw [← hkk]; exact h4)
          have hE := endN_34 h5 (by rw [h6]; exact hb34.2) h6
          have hk2 : 2 ≤ kk := by
            have h1s : 1 ≤ strN t := by unfold strN; omega
            rw [hkk] at h4 ⊢
            rw [hE] at h4 ⊢
            split
            · omega
            · rename_i q; rw [if_neg q] at h4; omega
          rw [← hkk, hsub 1 (kk - 1) (by omega) (by omega)] at hT
          repeat (first | refine byW ?_ | (refine byV ?_; intro w hw))
          refine lStore ?_
          intro w hw
          have hw : Wd Γ (.blk b10 (.cells #[.int .i64 3, .string (bSub s i (i + kk)), .int .u64 0, .int .i64 (posAt s i).Line, .int .i64 (posAt s i).Col] 63) :: .own g 63 5 (toks.map enc) :: .blk b6 (.cells (enc (posAt s i)).toArray 31) :: .blk b3 (.cells (enc (⟨0, 0⟩ : PosT)).toArray 31) :: S) w := hw
          repeat (first | refine byW ?_ | (refine byV ?_; intro w hw))
          refine lStore ?_
          intro w hw
          rw [show ((i : Int) + 1).toNat = i + 1 from by omega, show (((i + kk : Nat) : Int) - 1).toNat = i + (kk - 1) from by omega] at hw
          have hw : Wd Γ (.blk b10 (.cells #[.int .i64 3, .string (bSub s (i + 1) (i + (kk - 1))), .int .u64 0, .int .i64 (posAt s i).Line, .int .i64 (posAt s i).Col] 63) :: .own g 63 5 (toks.map enc) :: .blk b6 (.cells (enc (posAt s i)).toArray 31) :: .blk b3 (.cells (enc (⟨0, 0⟩ : PosT)).toArray 31) :: S) w := hw
          repeat (first | refine byW ?_ | (refine byV ?_; intro w hw))
          rw [hT]
          exact ⟨⟨3, bSub s (i + 1) (i + (kk - 1)), 0, (posAt s i).Line, (posAt s i).Col⟩, rfl, rfl, rfl, ⟨rfl, rfl, rfl, rfl, rfl, rfl, rfl, trivial⟩, hw⟩
        have h6 : ¬ byteAt t 0 = 34 := by rw [hb0]; exact of_decide_eq_false h6
        repeat (first | refine byW ?_ | (refine byV ?_; intro w hw))
        refine W_cond rfl (fun h7 => ?_) (fun h7 => ?_)
        · have hT := tok_dig h5 (by rw [hb0]; exact h7)
          rw [← hkk, hsub 0 kk (by omega) (by omega)] at hT
          repeat (first | refine byW ?_ | (refine byV ?_; intro w hw))
          refine lCall ?_
          refine (rnumber_any (bSub s i (i + kk)) (by rw [sub_size (by omega)]; omega) (by rw [sub_size (by omega)]; omega) hw).mono ?_
          clear hw
          rintro e w ⟨rfl, hw⟩
          refine ⟨_, rfl, ?_⟩
          rw [show i + 0 = i from rfl] at hT
          obtain ⟨N, hN⟩ : ∃ N, N = numS (bSub s i (i + kk)) := ⟨_, rfl⟩
          rw [← hN] at hT ⊢
          repeat (first | refine byW ?_ | (refine byV ?_; intro w hw))
          refine W_cond rfl (fun h8 => ?_) (fun h8 => ?_)
          · have h8 : ¬ N.2 = 0 := of_decide_eq_true h8
            rw [if_neg h8] at hT
            rw [hT]
            rw [show (tokErr N.2).err = N.2 from rfl, if_neg h8]
            repeat (first | refine byW ?_ | (refine byV ?_; intro w hw))
            have hw := hw.drop
            refine W_mixC [.own _ _ _ _, .blk b6 _] (.blk b3 _ :: S) [] [[],[],[],[0],[]] hw ?_
            repeat (first | refine mY ?_ | refine mP ?_ | refine mPg ?_)
            refine mStepX (φ := fun (_ : Unit) _ => True) (R := fun _ => .blk b3 (.cells (enc (⟨0, 0⟩ : PosT)).toArray 31) :: S) (v := undef) (T' := Unit) (fun _ _ => True) (fun _ => .blk b3 (.cells (enc (posAt s i)).toArray 31) :: S) (fun t' g w Y _ hw => s_store (i := 0) (inferInstance : TSz Tryz.prog 31 2).h hw rfl (v := .agg (enc (posAt s i)).toArray) rfl (vs := enc (posAt s i)) rfl rfl (fun u hu => (List.all_eq_true.1 (enc_one (posAt s i))) u hu) rfl (Nat.le_of_ble_eq_true rfl) fun w' hw' => ⟨(), trivial, fun _ => rfl, hw'⟩) ?_
            repeat (first | refine mY ?_ | refine mP ?_ | refine mPg ?_)
            refine mEndX fun t' w g _ hw => ?_
            have hw : Wd Γ (.blk b3 (.cells (enc (posAt s i)).toArray 31) :: S) w := Wd.left (S := .blk b3 _ :: S) hw
            repeat (first | refine byW ?_ | (refine byV ?_; intro w hw))
            exact ⟨[.slice none 0 0, .agg (enc (posAt s i)).toArray, .int .i64 N.2], ⟨rfl, resC (i := 0) hw rfl rfl rfl, rfl, trivial⟩, _, rfl, Wd.addNil hw.drop⟩
          · have h8 : N.2 = 0 := Classical.not_not.1 (of_decide_eq_false h8)
            rw [if_pos h8] at hT
            repeat (first | refine byW ?_ | (refine byV ?_; intro w hw))
            refine lStore ?_
            intro w hw
            refine L_nil ?_
            have hw : Wd Γ (.blk b10 (.cells #[.int .i64 2, .string (bSub s i (i + kk)), .int .u64 0, .int .i64 (posAt s i).Line, .int .i64 (posAt s i).Col] 63) :: .own g 63 5 (toks.map enc) :: .blk b6 (.cells (enc (posAt s i)).toArray 31) :: .blk b3 (.cells (enc (⟨0, 0⟩ : PosT)).toArray 31) :: S) w := hw
            repeat (first | refine byW ?_ | (refine byV ?_; intro w hw))
            refine lStore ?_
            intro w hw
            refine L_nil ?_
            have hw : Wd Γ (.blk b10 (.cells #[.int .i64 2, .string ⟨#[]⟩, .int .u64 0, .int .i64 (posAt s i).Line, .int .i64 (posAt s i).Col] 63) :: .own g 63 5 (toks.map enc) :: .blk b6 (.cells (enc (posAt s i)).toArray 31) :: .blk b3 (.cells (enc (⟨0, 0⟩ : PosT)).toArray 31) :: S) w := hw
            repeat (first | refine byW ?_ | (refine byV ?_; intro w hw))
            refine lStore ?_
            intro w hw
            refine L_nil ?_
            have hw : Wd Γ (.blk b10 (.cells #[.int .i64 2, .string ⟨#[]⟩, .int .u64 N.1, .int .i64 (posAt s i).Line, .int .i64 (posAt s i).Col] 63) :: .own g 63 5 (toks.map enc) :: .blk b6 (.cells (enc (posAt s i)).toArray 31) :: .blk b3 (.cells (enc (⟨0, 0⟩ : PosT)).toArray 31) :: S) w := hw
            rw [hT]
            exact ⟨⟨2, ⟨#[]⟩, N.1, (posAt s i).Line, (posAt s i).Col⟩, rfl, rfl, rfl, ⟨rfl, rfl, rfl, rfl, rfl, rfl, rfl, trivial⟩, hw⟩
        have h7 : ¬ digitB (byteAt t 0) = true := by
          rw [hb0]
          have h7 : digitB (byteAt s i) = false := h7
          rw [h7]; decide
        have hT := tok_pun h5 h7 h6 (by rw [← hkk]; exact h4)
        rw [← hkk, hsub 0 kk (by omega) (by omega)] at hT
        repeat (first | refine byW ?_ | (refine byV ?_; intro w hw))
        rw [hT]
        exact ⟨⟨4, bSub s i (i + kk), 0, (posAt s i).Line, (posAt s i).Col⟩, rfl, rfl, rfl, ⟨rfl, rfl, rfl, rfl, rfl, rfl, rfl, trivial⟩, hw⟩
      clear hw
      rintro ρ w ⟨tk, he, htk, htn, hρ, hw⟩
      rw [hρ.eq, he, if_pos rfl, htn]
      rw [← htk]
      clear hρ
      obtain ⟨ag, ng, cg, rfl, hng, hngc, hcg⟩ := hw.own_shape (i := 1) rfl
      simp only [List.length_map] at hng
      repeat (first | refine byW ?_ | (refine byV ?_; intro w hw))
      refine lBuildSlice [enc tk] ?_
      intro aN w hw
      refine lApp (i := 2) (rows2 := [enc tk]) ?_ (Wd.own_rd (i := 0) hw rfl)
      intro v' w hw
      repeat (first | refine byW ?_ | (refine byV ?_; intro w hw))
      have hw := hw.drop.drop
      have hw : Wd Γ (.own v' 63 5 ((toks ++ [tk]).map enc) :: .blk b6 (.cells (enc (posAt s i)).toArray 31) :: .blk b3 (.cells (enc (⟨0, 0⟩ : PosT)).toArray 31) :: S) w := by
        rw [List.map_append]; exact hw
      exact ⟨i + kk, v', toks ++ [tk], by omega, by omega, by simp; omega, rfl, ⟨rfl, rfl, rfl, rfl, rfl, rfl, trivial⟩, hw⟩
    clear hw
    rintro ρ w ⟨k, g, toks', hik, hks, htl', hN, hρ, hw⟩
    rw [hρ.eq, hN]
    clear hN hρ
    repeat (first | refine byW ?_ | (refine byV ?_; intro w hw))
    refine W_loop (fun μ ρ w => ∃ j : Nat, i ≤ j ∧ μ + j = k ∧ (posAt s j).Line ≤ 1 + j ∧ (posAt s j).Col ≤ 1 + j ∧ 0 ≤ (posAt s j).Line ∧ 0 ≤ (posAt s j).Col ∧ Has ρ [(0, .string s), (3, .pointer (some ⟨b3, 0, none⟩)), (5, g), (6, .pointer (some ⟨b6, 0, none⟩)), (7, .int .i64 j), (9, .int .i64 k)] ∧ Wd Γ (.own g 63 5 (toks'.map enc) :: .blk b6 (.cells (enc (posAt s j)).toArray 31) :: .blk b3 (.cells (enc (⟨0, 0⟩ : PosT)).toArray 31) :: S) w) (k - i) ⟨i, by omega, by omega, hl1, hc1, hl0, hc0, ⟨rfl, rfl, rfl, rfl, rfl, rfl, trivial⟩, hw⟩ ?_
    clear hw hl1 hc1 hl0 hc0
    rintro μ2 ρ w ⟨j, hij, hjk, hl1, hc1, hl0, hc0, hρ, hw⟩
    rw [hρ.eq]
    have hp1 : byteAt s j ≠ 10 → posAt s (j + 1) = ⟨(posAt s j).Line, (posAt s j).Col + 1⟩ := fun q => by
      have := posAt_run (s := s) (off := j) 1 (fun i hi => by rw [show j + i = j from by omega]; exact q)
      simpa using this
    have hp2 : byteAt s j = 10 → posAt s (j + 1) = ⟨(posAt s j).Line + 1, 1⟩ := posAt_nl
    repeat (first | refine byW ?_ | (refine byV ?_; intro w hw))
    refine W_cond rfl (fun h2 => ?_) (fun h2 => ?_)
    · have hlt : j < k := by have := of_decide_eq_true h2; omega
      repeat (first | refine byW ?_ | (refine byV ?_; intro w hw))
      refine lStore ?_
      intro w hw
      have hw : Wd Γ (.own g 63 5 (toks'.map enc) :: .blk b6 (.cells #[.int .i64 (posAt s j).Line, .int .i64 ((posAt s j).Col + 1)] 31) :: .blk b3 (.cells (enc (⟨0, 0⟩ : PosT)).toArray 31) :: S) w := hw
      repeat (first | refine byW ?_ | (refine byV ?_; intro w hw))
      refine W_cond rfl (fun h3 => ?_) (fun h3 => ?_)
      · have h3 : byteAt s j = 10 := of_decide_eq_true h3
        repeat (first | refine byW ?_ | (refine byV ?_; intro w hw))
        refine lStore ?_
        intro w hw
        have hw : Wd Γ (.own g 63 5 (toks'.map enc) :: .blk b6 (.cells (enc (posAt s (j + 1))).toArray 31) :: .blk b3 (.cells (enc (⟨0, 0⟩ : PosT)).toArray 31) :: S) w := by rw [hp2 h3]; exact hw
        repeat (first | refine byW ?_ | (refine byV ?_; intro w hw))
        exact ⟨μ2 - 1, by omega, j + 1, by omega, by omega, by rw [hp2 h3]; dsimp; omega, by rw [hp2 h3]; dsimp; omega, by rw [hp2 h3]; dsimp; omega, by rw [hp2 h3]; dsimp; omega, ⟨rfl, rfl, rfl, rfl, rfl, rfl, trivial⟩, hw⟩
      · have h3 : ¬ byteAt s j = 10 := of_decide_eq_false h3
        have hw : Wd Γ (.own g 63 5 (toks'.map enc) :: .blk b6 (.cells (enc (posAt s (j + 1))).toArray 31) :: .blk b3 (.cells (enc (⟨0, 0⟩ : PosT)).toArray 31) :: S) w := by rw [hp1 h3]; exact hw
        repeat (first | refine byW ?_ | (refine byV ?_; intro w hw))
        exact ⟨μ2 - 1, by omega, j + 1, by omega, by omega, by rw [hp1 h3]; dsimp; omega, by rw [hp1 h3]; dsimp; omega, by rw [hp1 h3]; dsimp; omega, by rw [hp1 h3]; dsimp; omega, ⟨rfl, rfl, rfl, rfl, rfl, rfl, trivial⟩, hw⟩
    · have hjk2 : j = k := by have := of_decide_eq_false h2; omega
      rw [hjk2] at hw hl1 hc1 hl0 hc0
      repeat (first | refine byW ?_ | (refine byV ?_; intro w hw))
      exact ⟨f, by omega, k, g, toks', hks, by omega, hl1, hc1, hl0, hc0, by omega, rfl, ⟨rfl, rfl, rfl, rfl, by show Value.int .i64 (j : Int) = _; rw [hjk2], trivial⟩, hw⟩
  · have h1 : ¬ i < s.size := by simpa using h1
    have hend : scanN s (f + 1) i toks = (toks, ⟨0, 0⟩, 0) := by
      show (if s.size ≤ i then _ else _) = _
      rw [if_pos (by omega)]
    rw [hend]
    repeat (first | refine byW ?_ | (refine byV ?_; intro w hw))
    refine lStore ?_
    intro w hw
    have hw : Wd Γ (.own g 63 5 (toks.map enc) :: .blk b6 (.cells (enc (posAt s i)).toArray 31) :: .blk b3 (.cells (enc (⟨0, 0⟩ : PosT)).toArray 31) :: S) w := hw
    repeat (first | refine byW ?_ | (refine byV ?_; intro w hw))
    exact ⟨[g, .agg (enc (⟨0, 0⟩ : PosT)).toArray, .int .i64 0], ⟨rfl, resC (i := 2) hw rfl rfl rfl, rfl, trivial⟩, _, rfl, (hw.dropAt 2).dropAt 1⟩
end Go.Proofs.YtnkekcippfdbgaaGreat
end
/- Calls that read what is owned and change nothing. -/
section
open Go
namespace Mk
attribute [local irreducible] Calls
class PS (P : Program) (Γ : Gho) (S : List Res) (f : Nat) (args : List Value) (v : outParam Value) : Prop where
  h : ∀ Y w, Wd Γ (S ++ Y) w → Calls P f args.toArray w fun e w' => e = .returned v ∧ Wd Γ (S ++ Y) w'
instance (priority := low) {P : Program} {Γ : Gho} {S : List Res} {f : Nat} {args : List Value} {v : Value} [h : PG P Γ f args v] : PS P Γ S f args v := ⟨fun Y w hw => h.h (S ++ Y) w hw⟩
section
variable {P : Program} {n : Nat} {ops : List Oper} {opa : Array Oper} {Γ : Gho} {S K : List Res} {Q : Fr → World → Prop} {QQ : Exit → Fr → World → Prop} {ρ : Fr} {w : World} {rest : List Oper} {wr tc stab : List (List Nat)} {i : Nat} {M : Nat → Fr → List Res}
variable {d : Option Tmp} {ty : TypeId} {pos : String} {es : Array Edge} {v : Value} {f : Nat} {args : List Operand} {tys : Array TypeId} {vs : List Value} {j dj : Nat} {want c : Bool} {g : Option (Nat × Bool)}
theorem s_ps {Y : List Res} [FnOk P f] (hp : PS P Γ S f vs v) (ha : EvL ρ args vs) (hw : Wd Γ (S ++ Y) w) : Step P ⟨d, .call { callee := .value (.func f), args := args.toArray, argTypes := tys }, ty, pos, es, g⟩ ρ w fun u w' => u = v ∧ Wd Γ (S ++ Y) w' :=
  s_call ha.eqA ((hp.h Y w hw).mono fun _ _ ⟨h1, h2⟩ => ⟨v, h1, rfl, h2⟩)
theorem lPs [FnOk P f] (h : ∀ w', Wd Γ S w' → L P n opa QQ rest (putO ρ d v) w') (hw : Wd Γ S w := by exact hw) (ha : EvL ρ args vs := by exact byEV) (hd : okDst n d = true := by exact rfl) (hp : PS P Γ S f vs v := by infer_instance) :
    L P n opa QQ (⟨d, .call { callee := .value (.func f), args := args.toArray, argTypes := tys }, ty, pos, es, none⟩ :: rest) ρ w :=
  L_step rfl hd ((s_ps (Y := []) hp ha (by rw [List.append_nil]; exact hw)).mono fun _ w' ⟨h1, h2⟩ => by subst h1; rw [List.append_nil] at h2; exact h w' h2)
theorem lPsG [FnOk P f] (h : ∀ w', Wd Γ S w' → L P n opa QQ rest (putO ρ d (gv c v)) w') (hw : Wd Γ S w := by exact hw) (hj : (opa[j]?).bind (·.dst) = some dj := by exact rfl) (hjn : okDst n (some dj) = true := by exact rfl) (hc : GuardIs (ρ dj) want c := by exact byGC) (hd : okDst n d = true := by exact rfl) (ha : c = true → EvL ρ args vs := by intro hc; exact byEVG) (hp : PS P Γ S f vs v := by infer_instance) :
    L P n opa QQ (⟨d, .call { callee := .value (.func f), args := args.toArray, argTypes := tys }, ty, pos, es, some (j, want)⟩ :: rest) ρ w :=
  lGC hj hjn hd hc (fun hct => lPs (fun w' hw' => by have := h w' hw'; rwa [gvT hct rfl] at this) hw (ha hct) hd hp) (fun hcf => by have := h w hw; rwa [show gv c v = undef from by rw [hcf]; unfold gv; rfl] at this)
theorem qPs [FnOk P f] (h : Qw P n ops Γ S Q rest (putO ρ d v)) (ha : EvL ρ args vs := by exact byEV) (hp : PS P Γ S f vs v := by infer_instance) :
    Qw P n ops Γ S Q (⟨d, .call { callee := .value (.func f), args := args.toArray, argTypes := tys }, ty, pos, es, none⟩ :: rest) ρ :=
  Q_c rfl rfl (fun _ _ hw => s_ps hp ha hw) h
theorem qPsG [FnOk P f] (h : Qw P n ops Γ S Q rest (putO ρ d (gv c v))) (hj : (ops[j]?).bind (·.dst) = some dj := by exact rfl) (hc : GuardIs (ρ dj) want c := by exact byGC) (ha : c = true → EvL ρ args vs := by intro hc; exact byEVG) (hp : PS P Γ S f vs v := by infer_instance) :
    Qw P n ops Γ S Q (⟨d, .call { callee := .value (.func f), args := args.toArray, argTypes := tys }, ty, pos, es, some (j, want)⟩ :: rest) ρ :=
  Q_gc rfl hj hc rfl (fun ht _ _ hw => s_ps hp (ha ht) hw) h
end
end Mk
end
/- The reference's parser: its state, looking at tokens, failing. -/
section
open Go Mk
namespace Go.Proofs.YtnkekcippfdbgaaGreat
set_option maxHeartbeats 8000000
attribute [local irreducible] Calls posAt

/-- The state of the reference's parser: the next token, the position and the error. -/
structure RS where
  I : Nat
  p : PosT
  er : Int
def rpB (bp : Nat) (s : ByteArray) (a : Option Addr) (n c : Nat) (σ : RS) : Res := .blk bp (.cells #[.string s, .slice a n c, .int .i64 σ.I, .int .i64 σ.p.Line, .int .i64 σ.p.Col, .int .i64 σ.er] 60)
class RTok (Γ : Gho) (a : Option Addr) (n c : Nat) (toks : outParam (List Tok)) : Prop where
  h : RepS Γ (.slice a n c) 5 (toks.map enc)
  big : n ≤ 1000000
theorem RTok.len {Γ : Gho} {a : Option Addr} {n c : Nat} {toks : List Tok} (h : RTok Γ a n c toks) : n = toks.length ∧ n ≤ c ∧ c ≤ 9223372036854775807 := by
  obtain ⟨_, _, _, h1, h2, h3⟩ := h.h.shape
  cases h1
  exact ⟨by simpa using h2, h3⟩
theorem RTok.mono {Γ Γ' : Gho} {a : Option Addr} {n c : Nat} {toks : List Tok} (h : RTok Γ a n c toks) (hle : Γ.le Γ') : RTok Γ' a n c toks := ⟨h.h.mono hle, h.big⟩
class IB (I : Nat) : Prop where h : I ≤ 1000000
def kindS (toks : List Tok) (k : Nat) (kind : Int) : Bool := match toks[k]? with | some t => decide (t.Kind = kind) | none => false
section
variable {Γ : Gho} {S : List Res} {w : World} {bp : Nat} {s : ByteArray} {a : Option Addr} {n c : Nat} {σ : RS} {toks : List Tok}
instance ps_OK : PS Tryz.prog Γ (rpB bp s a n c σ :: S) 21 [.pointer (some ⟨bp, 0, none⟩)] (.bool (decide (σ.er = 0))) := ⟨fun Y w hw => by
  refine calls_of_W Tryz.func21 rfl rfl ?_
  repeat (first | refine byW ?_ | (refine byV ?_; intro w hw))
  exact ⟨_, rfl, rfl, hw⟩⟩
instance ps_Done : PS Tryz.prog Γ (rpB bp s a n c σ :: S) 29 [.pointer (some ⟨bp, 0, none⟩)] (.bool (decide ((n : Int) ≤ σ.I))) := ⟨fun Y w hw => by
  refine calls_of_W Tryz.func29 rfl rfl ?_
  repeat (first | refine byW ?_ | (refine byV ?_; intro w hw))
  refine W_quiet (by kernel_rfl) (by kernel_rfl) hw ?_
  repeat (first | refine Q_nil ?_ | (apply Q_plain; first | (apply Q_go; first | refine qP ?_ | refine qPg ?_) | refine qY ?_) | (apply Q_guarded; first | (apply Q_go; first | refine qPG ?_ | refine qPgG ?_) | refine qG ?_))
  intro w hw
  repeat (first | refine byW ?_ | (refine byV ?_; intro w hw))
  exact ⟨_, rfl, rfl, hw⟩⟩
theorem kind_key (toks : List Tok) (hn : n = toks.length) {t : Tok} (htk : σ.I < n → toks[σ.I]? = some t) (kind : Int) : ((decide (σ.er = 0) && !decide ((n : Int) ≤ σ.I)) && decide (t.Kind = kind)) = (decide (σ.er = 0) && kindS toks σ.I kind) := by
  unfold kindS
  by_cases h : σ.I < n
  · rw [htk h]
    have h1 : ¬ (n : Int) ≤ σ.I := by omega
    simp [h1]
  · rw [List.getElem?_eq_none (by omega)]
    have h1 : (n : Int) ≤ σ.I := by omega
    simp [h1]
theorem peek_key (toks : List Tok) (hn : n = toks.length) {t : Tok} (htk : σ.I < n → toks[σ.I]? = some t) (kind : Int) (text : ByteArray) : (((decide (σ.er = 0) && !decide ((n : Int) ≤ σ.I)) && decide (t.Kind = kind)) && decide (t.Text = text)) = (decide (σ.er = 0) && isS toks σ.I kind text) := by
  unfold isS
  by_cases h : σ.I < n
  · rw [htk h]
    have h1 : ¬ (n : Int) ≤ σ.I := by omega
    simp [h1, Bool.and_assoc]
  · rw [List.getElem?_eq_none (by omega)]
    have h1 : (n : Int) ≤ σ.I := by omega
    simp [h1]
theorem guard_lt {b : Bool} {I n : Nat} (h : (b && !decide ((n : Int) ≤ I)) = true) : I < n := by
  simp only [Bool.and_eq_true, Bool.not_eq_true', decide_eq_false_iff_not] at h; omega
instance ps_Kind [ht : RTok Γ a n c toks] (kind : Int) : PS Tryz.prog Γ (rpB bp s a n c σ :: S) 82 [.pointer (some ⟨bp, 0, none⟩), .int .i64 kind] (.bool (decide (σ.er = 0) && kindS toks σ.I kind)) := ⟨fun Y w hw => by
  obtain ⟨hn, hnc, hc⟩ := ht.len
  have hr := ht.h
  have hw : Wd Γ (rpB bp s a n c σ :: (S ++ Y)) w := hw
  refine calls_of_W Tryz.func82 rfl rfl ?_
  repeat (first | refine byW ?_ | (refine byV ?_; intro w hw))
  obtain ⟨t, htk⟩ : ∃ t : Tok, σ.I < n → toks[σ.I]? = some t := by
    by_cases h : σ.I < n
    · obtain ⟨t, ht⟩ := get_lt (l := toks) (k := σ.I) (by omega); exact ⟨t, fun _ => ht⟩
    · exact ⟨default, fun hh => absurd hh h⟩
  refine W_quiet (by kernel_rfl) (by kernel_rfl) hw ?_
  iterate 18 (first | (first | refine Q_nil ?_ | (apply Q_plain; first | (apply Q_go; first | refine qP ?_ | refine qPg ?_) | refine qY ?_) | (apply Q_guarded; first | (apply Q_go; first | refine qPG ?_ | refine qPgG ?_) | refine qG ?_)) | (apply Q_plain; apply Q_go; refine qPs ?_) | (apply Q_guarded; apply Q_go; refine qPsG ?_))
  apply Q_guarded
  refine qG ?_ (hy := fun hc w hw => by
    have h0 := htk (guard_lt hc)
    exact byPUG)
  repeat (first | (first | refine Q_nil ?_ | (apply Q_plain; first | (apply Q_go; first | refine qP ?_ | refine qPg ?_) | refine qY ?_) | (apply Q_guarded; first | (apply Q_go; first | refine qPG ?_ | refine qPgG ?_) | refine qG ?_)) | (apply Q_plain; apply Q_go; refine qPs ?_) | (apply Q_guarded; apply Q_go; refine qPsG ?_))
  intro w hw
  repeat (first | refine byW ?_ | (refine byV ?_; intro w hw))
  exact ⟨_, rfl, ret_b rfl (kind_key toks hn htk kind), hw⟩⟩
instance ps_Peek [ht : RTok Γ a n c toks] (kind : Int) (text : ByteArray) : PS Tryz.prog Γ (rpB bp s a n c σ :: S) 22 [.pointer (some ⟨bp, 0, none⟩), .int .i64 kind, .string text] (.bool (decide (σ.er = 0) && isS toks σ.I kind text)) := ⟨fun Y w hw => by
  obtain ⟨hn, hnc, hc⟩ := ht.len
  have hr := ht.h
  have hw : Wd Γ (rpB bp s a n c σ :: (S ++ Y)) w := hw
  refine calls_of_W Tryz.func22 rfl rfl ?_
  repeat (first | refine byW ?_ | (refine byV ?_; intro w hw))
  obtain ⟨t, htk⟩ : ∃ t : Tok, σ.I < n → toks[σ.I]? = some t := by
    by_cases h : σ.I < n
    · obtain ⟨t, ht⟩ := get_lt (l := toks) (k := σ.I) (by omega); exact ⟨t, fun _ => ht⟩
    · exact ⟨default, fun hh => absurd hh h⟩
  refine W_quiet (by kernel_rfl) (by kernel_rfl) hw ?_
  iterate 18 (first | (first | refine Q_nil ?_ | (apply Q_plain; first | (apply Q_go; first | refine qP ?_ | refine qPg ?_) | refine qY ?_) | (apply Q_guarded; first | (apply Q_go; first | refine qPG ?_ | refine qPgG ?_) | refine qG ?_)) | (apply Q_plain; apply Q_go; refine qPs ?_) | (apply Q_guarded; apply Q_go; refine qPsG ?_))
  apply Q_guarded
  refine qG ?_ (hy := fun hc w hw => by
    have h0 := htk (guard_lt hc)
    exact byPUG)
  iterate 14 (first | (first | refine Q_nil ?_ | (apply Q_plain; first | (apply Q_go; first | refine qP ?_ | refine qPg ?_) | refine qY ?_) | (apply Q_guarded; first | (apply Q_go; first | refine qPG ?_ | refine qPgG ?_) | refine qG ?_)) | (apply Q_plain; apply Q_go; refine qPs ?_) | (apply Q_guarded; apply Q_go; refine qPsG ?_))
  apply Q_guarded
  refine qG ?_ (hy := fun hc w hw => by
    have h0 := htk (guard_lt (andL hc))
    exact byPUG)
  repeat (first | (first | refine Q_nil ?_ | (apply Q_plain; first | (apply Q_go; first | refine qP ?_ | refine qPg ?_) | refine qY ?_) | (apply Q_guarded; first | (apply Q_go; first | refine qPG ?_ | refine qPgG ?_) | refine qG ?_)) | (apply Q_plain; apply Q_go; refine qPs ?_) | (apply Q_guarded; apply Q_go; refine qPsG ?_))
  intro w hw
  repeat (first | refine byW ?_ | (refine byV ?_; intro w hw))
  exact ⟨_, rfl, ret_b rfl (peek_key toks hn htk kind text), hw⟩⟩
class SZ (s : ByteArray) : Prop where h : s.size ≤ 4611686018427387904
instance pg_At [hs : SZ s] : PG Tryz.prog Γ 84 [.string s, .int .i64 s.size] (.agg (enc (endP s)).toArray) := ⟨fun S w hw => At_any s s.size (Nat.le_refl _) hs.h hw⟩
/-- An error is kept, if there is none yet. -/
def failS (toks : List Tok) (e : PosT) (σ : RS) (i : Nat) (er : Int) : RS := if σ.er = 0 then ⟨σ.I, posOf toks i e, er⟩ else σ
theorem Fail_any [ht : RTok Γ a n c toks] [hs : SZ s] (i : Int) (j : Nat) (er : Int) (hi : σ.er = 0 → i = j) (hw : Wd Γ (rpB bp s a n c σ :: S) w) :
    Calls Tryz.prog 28 #[.pointer (some ⟨bp, 0, none⟩), .int .i64 i, .int .i64 er] w fun r w' => r = .returned (.tuple #[]) ∧ Wd Γ (rpB bp s a n c (failS toks (endP s) σ j er) :: S) w' := by
  obtain ⟨hn, hnc, hc⟩ := ht.len
  have hr := ht.h
  refine calls_of_W Tryz.func28 rfl rfl ?_
  repeat (first | refine byW ?_ | (refine byV ?_; intro w hw) | (apply L_plain; apply L_go; refine lPs ?_; intro w hw) | (apply L_guarded; apply L_go; refine lPsG ?_; intro w hw))
  refine W_cond rfl (fun h => ?_) (fun h => ?_)
  · have h : σ.er ≠ 0 := by simpa using h
    have hE : failS toks (endP s) σ j er = σ := by unfold failS; rw [if_neg h]
    rw [hE]
    repeat (first | refine byW ?_ | (refine byV ?_; intro w hw))
    exact ⟨_, rfl, rfl, hw⟩
  have h : σ.er = 0 := by simpa using h
  have hi := hi h
  subst hi
  have hE : failS toks (endP s) σ j er = ⟨σ.I, posOf toks j (endP s), er⟩ := by unfold failS; rw [if_pos h]
  rw [hE]
  repeat (first | refine byW ?_ | (refine byV ?_; intro w hw))
  refine lStore ?_
  intro w hw
  have hw : Wd Γ (rpB bp s a n c ⟨σ.I, σ.p, er⟩ :: S) w := hw
  repeat (first | refine byW ?_ | (refine byV ?_; intro w hw))
  refine W_mix1 [] (rpB bp s a n c ⟨σ.I, σ.p, er⟩ :: S) [[],[],[],[],[],[],[],[],[],[],[],[],[],[0]] [[],[],[],[],[0],[],[],[],[0],[],[],[],[],[0]] hw ?_
  repeat (first | refine mY ?_ | refine mP ?_ | refine mPg ?_)
  refine mStoreC ?_
  refine mEnd fun w g hw => ?_
  have hw : Wd Γ ((rpB bp s a n c ⟨σ.I, endP s, er⟩ :: S) ++ []) w := hw
  rw [List.append_nil] at hw
  repeat (first | refine byW ?_ | (refine byV ?_; intro w hw))
  refine W_cond rfl (fun h2 => ?_) (fun h2 => ?_)
  · have h2 : j < n := by have := of_decide_eq_true h2; omega
    obtain ⟨t, htk⟩ := get_lt (l := toks) (k := j) (by omega)
    have hp : posOf toks j (endP s) = ⟨t.Line, t.Col⟩ := by unfold posOf; rw [htk]
    rw [hp]
    repeat (first | refine byW ?_ | (refine byV ?_; intro w hw))
    refine lStore ?_
    intro w hw
    have hw : Wd Γ (rpB bp s a n c ⟨σ.I, ⟨t.Line, t.Col⟩, er⟩ :: S) w := hw
    repeat (first | refine byW ?_ | (refine byV ?_; intro w hw))
    exact ⟨_, rfl, rfl, hw⟩
  · have h2 : ¬ j < n := by have := of_decide_eq_false h2; omega
    have hp : posOf toks j (endP s) = endP s := by unfold posOf; rw [List.getElem?_eq_none (by omega)]
    rw [hp]
    repeat (first | refine byW ?_ | (refine byV ?_; intro w hw))
    exact ⟨_, rfl, rfl, hw⟩
end
end Go.Proofs.YtnkekcippfdbgaaGreat
end
/- The reference's parser: reading tokens. -/
section
open Go Mk
namespace Go.Proofs.YtnkekcippfdbgaaGreat
set_option maxHeartbeats 8000000
attribute [local irreducible] Calls posAt endP

def takeS (toks : List Tok) (σ : RS) (kind : Int) (text : ByteArray) : RS := if (decide (σ.er = 0) && isS toks σ.I kind text) = true then ⟨σ.I + 1, σ.p, σ.er⟩ else σ
def needS (toks : List Tok) (e : PosT) (σ : RS) (kind : Int) (text : ByteArray) : RS := if (decide (σ.er = 0) && isS toks σ.I kind text) = true then ⟨σ.I + 1, σ.p, σ.er⟩ else failS toks e σ σ.I 50
def anyS (toks : List Tok) (e : PosT) (σ : RS) (kind : Int) : Tok × RS := if (decide (σ.er = 0) && kindS toks σ.I kind) = true then ((toks[σ.I]?).getD default, ⟨σ.I + 1, σ.p, σ.er⟩) else (default, failS toks e σ σ.I 50)
def nameR (toks : List Tok) (e : PosT) (σ : RS) (kind : Int) : ByteArray × RS := ((anyS toks e σ kind).1.Text, if 24 < (anyS toks e σ kind).1.Text.size then failS toks e (anyS toks e σ kind).2 ((anyS toks e σ kind).2.I - 1) 63 else (anyS toks e σ kind).2)
def intR (toks : List Tok) (e : PosT) (σ : RS) : Int × RS := if 2147483647 < (anyS toks e σ 2).1.Value then (0, failS toks e (anyS toks e σ 2).2 ((anyS toks e σ 2).2.I - 1) 6) else (IntKind.i64.wrap (anyS toks e σ 2).1.Value, (anyS toks e σ 2).2)
theorem failS_I {toks : List Tok} {e : PosT} {σ : RS} {i : Nat} {er : Int} : (failS toks e σ i er).I = σ.I := by unfold failS; split <;> rfl
theorem kindS_lt {toks : List Tok} {k : Nat} {kind : Int} (h : kindS toks k kind = true) : k < toks.length := by
  unfold kindS at h
  by_cases hk : k < toks.length
  · exact hk
  · rw [List.getElem?_eq_none (by omega)] at h; cases h
section
variable {Γ : Gho} {S : List Res} {w : World} {bp : Nat} {s : ByteArray} {a : Option Addr} {n c : Nat} {σ : RS} {toks : List Tok}
theorem needS_I {e : PosT} {kind : Int} {text : ByteArray} (h : σ.I ≤ toks.length) : (needS toks e σ kind text).I ≤ toks.length := by
  unfold needS
  split
  · rename_i q
    have := isS_lt (andR q)
    exact this
  · rw [failS_I]; exact h
theorem anyS_I {e : PosT} {kind : Int} (h : σ.I ≤ toks.length) : (anyS toks e σ kind).2.I ≤ toks.length := by
  unfold anyS
  split
  · rename_i q
    have := kindS_lt (andR q)
    exact this
  · show (failS toks e σ σ.I 50).I ≤ _
    rw [failS_I]; exact h
theorem Take_any [ht : RTok Γ a n c toks] (kind : Int) (text : ByteArray) (hw : Wd Γ (rpB bp s a n c σ :: S) w) :
    Calls Tryz.prog 81 #[.pointer (some ⟨bp, 0, none⟩), .int .i64 kind, .string text] w fun r w' => r = .returned (.bool (decide (σ.er = 0) && isS toks σ.I kind text)) ∧ Wd Γ (rpB bp s a n c (takeS toks σ kind text) :: S) w' := by
  obtain ⟨hn, hnc, hc⟩ := ht.len
  have hbig := ht.big
  refine calls_of_W Tryz.func81 rfl rfl ?_
  repeat (first | refine byW ?_ | (refine byV ?_; intro w hw) | (apply L_plain; apply L_go; refine lPs ?_; intro w hw) | (apply L_guarded; apply L_go; refine lPsG ?_; intro w hw))
  refine W_cond rfl (fun h => ?_) (fun h => ?_)
  · have hE : takeS toks σ kind text = ⟨σ.I + 1, σ.p, σ.er⟩ := by unfold takeS; rw [if_pos h]
    have hlt := isS_lt (andR h)
    rw [hE]
    repeat (first | refine byW ?_ | (refine byV ?_; intro w hw))
    refine lStore ?_
    intro w hw
    have hw : Wd Γ (rpB bp s a n c ⟨σ.I + 1, σ.p, σ.er⟩ :: S) w := hw
    repeat (first | refine byW ?_ | (refine byV ?_; intro w hw))
    exact ⟨_, rfl, by rw [h]; rfl, hw⟩
  · have hE : takeS toks σ kind text = σ := by unfold takeS; rw [if_neg (by rw [h]; decide)]
    rw [hE]
    repeat (first | refine byW ?_ | (refine byV ?_; intro w hw))
    exact ⟨_, rfl, by rw [h]; rfl, hw⟩
theorem Need_any [ht : RTok Γ a n c toks] [hs : SZ s] (kind : Int) (text : ByteArray) (hw : Wd Γ (rpB bp s a n c σ :: S) w) :
    Calls Tryz.prog 19 #[.pointer (some ⟨bp, 0, none⟩), .int .i64 kind, .string text] w fun r w' => r = .returned (.tuple #[]) ∧ Wd Γ (rpB bp s a n c (needS toks (endP s) σ kind text) :: S) w' := by
  obtain ⟨hn, hnc, hc⟩ := ht.len
  have hbig := ht.big
  refine calls_of_W Tryz.func19 rfl rfl ?_
  repeat (first | refine byW ?_ | (refine byV ?_; intro w hw))
  refine lCall ?_
  refine (Take_any kind text hw).mono ?_
  clear hw
  rintro r w ⟨rfl, hw⟩
  refine ⟨_, rfl, ?_⟩
  repeat (first | refine byW ?_ | (refine byV ?_; intro w hw))
  refine W_cond rfl (fun h => ?_) (fun h => ?_)
  · have h : (decide (σ.er = 0) && isS toks σ.I kind text) = false := by rw [← Bool.not_eq_true']; exact h
    have hE : takeS toks σ kind text = σ := by unfold takeS; rw [if_neg (by rw [h]; decide)]
    have hE2 : needS toks (endP s) σ kind text = failS toks (endP s) σ σ.I 50 := by unfold needS; rw [if_neg (by rw [h]; decide)]
    rw [hE] at hw
    rw [hE2]
    repeat (first | refine byW ?_ | (refine byV ?_; intro w hw))
    refine lCall ?_
    refine (Fail_any (σ.I : Int) σ.I 50 (fun _ => rfl) hw).mono ?_
    clear hw
    rintro r w ⟨rfl, hw⟩
    refine ⟨_, rfl, ?_⟩
    repeat (first | refine byW ?_ | (refine byV ?_; intro w hw))
    exact ⟨_, rfl, rfl, hw⟩
  · have h : (decide (σ.er = 0) && isS toks σ.I kind text) = true := by rw [← Bool.not_eq_false']; exact h
    have hE : takeS toks σ kind text = ⟨σ.I + 1, σ.p, σ.er⟩ := by unfold takeS; rw [if_pos h]
    have hE2 : needS toks (endP s) σ kind text = ⟨σ.I + 1, σ.p, σ.er⟩ := by unfold needS; rw [if_pos h]
    rw [hE] at hw
    rw [hE2]
    repeat (first | refine byW ?_ | (refine byV ?_; intro w hw))
    exact ⟨_, rfl, rfl, hw⟩
theorem Any_any [ht : RTok Γ a n c toks] [hs : SZ s] (kind : Int) (hI : σ.I ≤ n) (hw : Wd Γ (rpB bp s a n c σ :: S) w) :
    Calls Tryz.prog 23 #[.pointer (some ⟨bp, 0, none⟩), .int .i64 kind] w fun r w' => r = .returned (.agg (enc (anyS toks (endP s) σ kind).1).toArray) ∧ Wd Γ (rpB bp s a n c (anyS toks (endP s) σ kind).2 :: S) w' := by
  obtain ⟨hn, hnc, hc⟩ := ht.len
  have hbig := ht.big
  have hr := ht.h
  refine calls_of_WC Tryz.func23 rfl rfl ?_
  repeat (first | refine byW ?_ | (refine byV ?_; intro w hw))
  refine lAlloc ?_
  intro b4 w hw
  have hw := hw.ps [1]
  have hw : Wd Γ (rpB bp s a n c σ :: .blk b4 (.cells (enc (default : Tok)).toArray 63) :: S) w := hw
  repeat (first | refine byW ?_ | (refine byV ?_; intro w hw) | (apply L_plain; apply L_go; refine lPs ?_; intro w hw) | (apply L_guarded; apply L_go; refine lPsG ?_; intro w hw))
  refine W_cond rfl (fun h => ?_) (fun h => ?_)
  · have h : (decide (σ.er = 0) && kindS toks σ.I kind) = false := by rw [← Bool.not_eq_true']; exact h
    have hE : anyS toks (endP s) σ kind = (default, failS toks (endP s) σ σ.I 50) := by unfold anyS; rw [if_neg (by rw [h]; decide)]
    rw [hE]
    repeat (first | refine byW ?_ | (refine byV ?_; intro w hw))
    refine lCall ?_
    refine (Fail_any (σ.I : Int) σ.I 50 (fun _ => rfl) hw).mono ?_
    clear hw
    rintro r w ⟨rfl, hw⟩
    refine ⟨_, rfl, ?_⟩
    repeat (first | refine byW ?_ | (refine byV ?_; intro w hw))
    refine lStore (i := 1) ?_
    intro w hw
    have hw : Wd Γ (rpB bp s a n c (failS toks (endP s) σ σ.I 50) :: .blk b4 (.cells (enc (default : Tok)).toArray 63) :: S) w := hw
    repeat (first | refine byW ?_ | (refine byV ?_; intro w hw))
    exact ⟨[.agg (enc (default : Tok)).toArray], ⟨resC (i := 1) hw rfl rfl rfl, trivial⟩, rfl, hw.dropAt 1⟩
  · have h : (decide (σ.er = 0) && kindS toks σ.I kind) = true := by rw [← Bool.not_eq_false']; exact h
    have hlt := kindS_lt (andR h)
    obtain ⟨t, htk⟩ := get_lt (l := toks) (k := σ.I) (by omega)
    have hE : anyS toks (endP s) σ kind = (t, ⟨σ.I + 1, σ.p, σ.er⟩) := by unfold anyS; rw [if_pos h, htk]; rfl
    rw [hE]
    repeat (first | refine byW ?_ | (refine byV ?_; intro w hw))
    refine lStore ?_
    intro w hw
    have hw : Wd Γ (rpB bp s a n c ⟨σ.I + 1, σ.p, σ.er⟩ :: .blk b4 (.cells (enc (default : Tok)).toArray 63) :: S) w := hw
    repeat (first | refine byW ?_ | (refine byV ?_; intro w hw))
    refine W_mix1 [.blk bp (.cells #[.string s, .slice a n c, .int .i64 ((σ.I + 1 : Nat) : Int), .int .i64 σ.p.Line, .int .i64 σ.p.Col, .int .i64 σ.er] 60)] (.blk b4 (.cells (enc (default : Tok)).toArray 63) :: S) [[],[],[],[],[],[],[],[],[],[],[],[0]] [[],[],[],[],[],[],[],[],[],[],[],[0]] hw ?_
    have htk2 : toks[(((σ.I + 1 : Nat) : Int) - 1).toNat]? = some t := by rw [show (((σ.I + 1 : Nat) : Int) - 1).toNat = σ.I from by omega]; exact htk
    repeat (first | refine mY ?_ | refine mP ?_ | refine mPg ?_)
    refine mStoreC ?_
    refine mEnd fun w g hw => ?_
    have hw := Wd.dropEnd (C := []) hw
    have hw : Wd Γ (rpB bp s a n c ⟨σ.I + 1, σ.p, σ.er⟩ :: .blk b4 (.cells (enc t).toArray 63) :: S) w := hw
    repeat (first | refine byW ?_ | (refine byV ?_; intro w hw))
    exact ⟨[.agg (enc t).toArray], ⟨resC (i := 1) hw rfl rfl rfl, trivial⟩, rfl, hw.dropAt 1⟩
theorem Name_any [ht : RTok Γ a n c toks] [hs : SZ s] (kind : Int) (hI : σ.I ≤ n) (hw : Wd Γ (rpB bp s a n c σ :: S) w) :
    Calls Tryz.prog 20 #[.pointer (some ⟨bp, 0, none⟩), .int .i64 kind] w fun r w' => r = .returned (.string (nameR toks (endP s) σ kind).1) ∧ Wd Γ (rpB bp s a n c (nameR toks (endP s) σ kind).2 :: S) w' := by
  obtain ⟨hn, hnc, hc⟩ := ht.len
  have hbig := ht.big
  refine calls_of_W Tryz.func20 rfl rfl ?_
  repeat (first | refine byW ?_ | (refine byV ?_; intro w hw))
  refine lCall ?_
  refine (Any_any kind hI hw).mono ?_
  clear hw
  rintro r w ⟨rfl, hw⟩
  refine ⟨_, rfl, ?_⟩
  have hI2 := anyS_I (toks := toks) (e := endP s) (kind := kind) (σ := σ) (by omega)
  have hI3 : (anyS toks (endP s) σ kind).2.er = 0 → 1 ≤ (anyS toks (endP s) σ kind).2.I := fun h0 => by
    unfold anyS at h0 ⊢
    split
    · show 1 ≤ σ.I + 1; omega
    · rename_i q
      rw [if_neg q] at h0
      exfalso
      unfold failS at h0
      split at h0
      · exact absurd h0 (show ¬ (50 : Int) = 0 by decide)
      · contradiction
  unfold nameR
  generalize anyS toks (endP s) σ kind = q at *
  obtain ⟨t, τ⟩ := q
  refine lAlloc ?_
  intro b5 w hw
  refine lStore (i := 0) ?_
  intro w hw
  have hw := hw.ps [1]
  have hw : Wd Γ (rpB bp s a n c τ :: .blk b5 (.cells (enc t).toArray 63) :: S) w := hw
  dsimp only at hI2 hI3 ⊢
  repeat (first | refine byW ?_ | (refine byV ?_; intro w hw))
  refine W_cutT (fun ρ w => Has ρ [(5, .pointer (some ⟨b5, 0, none⟩))] ∧ Wd Γ (rpB bp s a n c (if 24 < t.Text.size then failS toks (endP s) τ (τ.I - 1) 63 else τ) :: .blk b5 (.cells (enc t).toArray 63) :: S) w) ?_ ?_
  · refine W_cond rfl (fun h => ?_) (fun h => ?_)
    · have h : 24 < t.Text.size := by have := of_decide_eq_true h; omega
      rw [if_pos h]
      repeat (first | refine byW ?_ | (refine byV ?_; intro w hw))
      refine lCall ?_
      refine (Fail_any ((τ.I : Int) - 1) (τ.I - 1) 63 (fun h0 => by have := hI3 h0; omega) hw).mono ?_
      clear hw
      rintro r w ⟨rfl, hw⟩
      refine ⟨_, rfl, ?_⟩
      repeat (first | refine byW ?_ | (refine byV ?_; intro w hw))
      exact ⟨⟨rfl, trivial⟩, hw⟩
    · have h : ¬ 24 < t.Text.size := by have := of_decide_eq_false h; omega
      rw [if_neg h]
      repeat (first | refine byW ?_ | (refine byV ?_; intro w hw))
      exact ⟨⟨rfl, trivial⟩, hw⟩
  clear hw
  rintro ρ w ⟨hρ, hw⟩
  rw [hρ.eq]
  repeat (first | refine byW ?_ | (refine byV ?_; intro w hw))
  exact ⟨_, rfl, rfl, hw.dropAt 1⟩
theorem Int_any [ht : RTok Γ a n c toks] [hs : SZ s] (hI : σ.I ≤ n) (hw : Wd Γ (rpB bp s a n c σ :: S) w) :
    Calls Tryz.prog 24 #[.pointer (some ⟨bp, 0, none⟩)] w fun r w' => r = .returned (.int .i64 (intR toks (endP s) σ).1) ∧ Wd Γ (rpB bp s a n c (intR toks (endP s) σ).2 :: S) w' := by
  obtain ⟨hn, hnc, hc⟩ := ht.len
  have hbig := ht.big
  refine calls_of_W Tryz.func24 rfl rfl ?_
  repeat (first | refine byW ?_ | (refine byV ?_; intro w hw))
  refine lCall ?_
  refine (Any_any 2 hI hw).mono ?_
  clear hw
  rintro r w ⟨rfl, hw⟩
  refine ⟨_, rfl, ?_⟩
  have hI2 := anyS_I (toks := toks) (e := endP s) (kind := 2) (σ := σ) (by omega)
  have hI3 : (anyS toks (endP s) σ 2).2.er = 0 → 1 ≤ (anyS toks (endP s) σ 2).2.I := fun h0 => by
    unfold anyS at h0 ⊢
    split
    · show 1 ≤ σ.I + 1; omega
    · rename_i q
      rw [if_neg q] at h0
      exfalso
      unfold failS at h0
      split at h0
      · exact absurd h0 (show ¬ (50 : Int) = 0 by decide)
      · contradiction
  unfold intR
  generalize anyS toks (endP s) σ 2 = q at *
  obtain ⟨t, τ⟩ := q
  refine lAlloc ?_
  intro b5 w hw
  refine lStore (i := 0) ?_
  intro w hw
  have hw := hw.ps [1]
  have hw : Wd Γ (rpB bp s a n c τ :: .blk b5 (.cells (enc t).toArray 63) :: S) w := hw
  dsimp only at hI2 hI3 ⊢
  repeat (first | refine byW ?_ | (refine byV ?_; intro w hw))
  refine W_cond rfl (fun h => ?_) (fun h => ?_)
  · have h : 2147483647 < t.Value := by have := of_decide_eq_true h; omega
    rw [if_pos h]
    repeat (first | refine byW ?_ | (refine byV ?_; intro w hw))
    refine lCall ?_
    refine (Fail_any ((τ.I : Int) - 1) (τ.I - 1) 6 (fun h0 => by have := hI3 h0; omega) hw).mono ?_
    clear hw
    rintro r w ⟨rfl, hw⟩
    refine ⟨_, rfl, ?_⟩
    repeat (first | refine byW ?_ | (refine byV ?_; intro w hw))
    exact ⟨_, rfl, rfl, hw.dropAt 1⟩
  · have h : ¬ 2147483647 < t.Value := by have := of_decide_eq_false h; omega
    rw [if_neg h]
    repeat (first | refine byW ?_ | (refine byV ?_; intro w hw))
    exact ⟨_, rfl, rfl, hw.dropAt 1⟩
end
end Go.Proofs.YtnkekcippfdbgaaGreat
end
/- Slices made by 'make'. -/
section
open Go
namespace Mk
attribute [local irreducible] Calls
theorem made_rows {zs : List Value} {sz : Nat} (hz : zs.length = sz) (h0 : 0 < sz) : ∀ n : Nat, (madeCells zs.toArray (n * sz)).toList = (List.replicate n zs).flatten := fun n => by
  unfold madeCells
  simp only [Array.toList_map, Array.toList_range, List.size_toArray, hz]
  have hf : ∀ i : Nat, zs.toArray[i % sz]! = zs.getD (i % sz) undef := fun i => by
    have hlt : i % sz < zs.length := by rw [hz]; exact Nat.mod_lt _ h0
    rw [getElem!_pos (zs.toArray) _ (by simpa using hlt)]
    simp [List.getD_eq_getElem?_getD, List.getElem?_eq_getElem hlt]
  simp only [hf]
  induction n with
  | zero => simp
  | succ n ih =>
    rw [show (n + 1) * sz = sz + n * sz from by rw [Nat.add_mul]; omega, List.range_add, List.map_append, List.map_map, List.replicate_succ, List.flatten_cons, ← ih]
    congr 1
    · refine List.ext_getElem? fun i => ?_
      rw [List.getElem?_map]
      by_cases hi : i < sz
      · rw [List.getElem?_range hi]
        simp only [Option.map_some, Nat.mod_eq_of_lt hi]
        rw [List.getD_eq_getElem?_getD, List.getElem?_eq_getElem (by omega)]; rfl
      · rw [List.getElem?_eq_none (by simpa using hi), List.getElem?_eq_none (by omega)]; rfl
    · refine List.map_congr_left fun i _ => ?_
      simp
section
variable {P : Program} {n : Nat} {opa : Array Oper} {Γ : Gho} {S : List Res} {QQ : Exit → Fr → World → Prop} {ρ : Fr} {w : World} {rest : List Oper} {K : Value → World → Prop}
variable {d : Option Tmp} {T ty : TypeId} {pos : String} {es : Array Edge} {g : Option (Nat × Bool)} {x y : Operand}
theorem s_makeSlice {E by' len sz : Nat} {zs : List Value} [hT : TL P T E sz by' zs] (hw : Wd Γ S w) (hx : ev ρ x = .int .i64 (len : Nat)) (hy : ev ρ y = .int .i64 (len : Nat)) (hb : (by' : Int) * len ≤ 281474976710656) (h63 : (len : Int) ≤ 9223372036854775807)
    (hk : ∀ a w', Wd Γ (.own (.slice (some a) len len) E sz (List.replicate len zs) :: S) w' → K (.slice (some a) len len) w') : Step P ⟨d, .makeSlice T x y, ty, pos, es, g⟩ ρ w K := by
  obtain ⟨q, z, hq, hz, hzc⟩ := zeroOf_info hT.z
  obtain ⟨q', hq', hs, hb'⟩ := sizeBytes_info hT.s
  rw [hq] at hq'; cases hq'
  have hrun := run_make (P := P) w T E q z hT.h hq hz .i64 .i64 (len : Int) (len : Int) (by omega) (Int.le_refl _) (by rw [hb']; exact hb) h63
  rw [hzc, hs] at hrun
  have hr0 : (execOp (ev ρ) ⟨d, .makeSlice T x y, ty, pos, es, g⟩).run P w = .ok (.value (.slice (some ⟨w.heap.size, 0, none⟩) len len)) (w.alloc (.cells (madeCells zs.toArray (len * sz)) E)) := by
    simp only [execOp, hx, hy, Sem.run_bind, hrun, Result.andThen_ok, Int.toNat_natCast]
    rfl
  have hrows := made_rows hT.n.1 hT.n.2 len
  have hfin := hk ⟨w.heap.size, 0, none⟩ (w.alloc (.cells (madeCells zs.toArray (len * sz)) E)) (hw.add (bs := [w.heap.size]) ⟨rfl, rfl, rfl, (by first | exact Nat.le_refl _ | exact Nat.le_succ _), by simp⟩ (by
    unfold Res.own
    refine ⟨fun r hr => by rw [List.eq_of_mem_replicate hr]; exact hT.n.1, _, _, _, rfl, (by simp), Nat.le_refl _, by simp [maxLen]; omega, .inr ⟨w.heap.size, madeCells zs.toArray (len * sz), rfl, rfl, heap_alloc_new w _, size_madeCells _ _, ?_⟩⟩
    rw [hrows, List.take_of_length_le]
    rw [← hrows, Array.length_toList, size_madeCells]; exact Nat.le_refl _) (by simp) (by simp) fun k hk => heap_alloc_old w _ hk)
  unfold Step; rw [hr0]; exact hfin
theorem lMakeSlice {E by' len sz : Nat} {zs : List Value} [hT : TL P T E sz by' zs] (h : ∀ a w', Wd Γ (.own (.slice (some a) len len) E sz (List.replicate len zs) :: S) w' → L P n opa QQ rest (putO ρ d (.slice (some a) len len)) w')
    (hw : Wd Γ S w := by exact hw) (hx : ev ρ x = .int .i64 (len : Nat) := by exact rfl) (hy : ev ρ y = .int .i64 (len : Nat) := by exact rfl) (hb : (by' : Int) * len ≤ 281474976710656 := by omega) (h63 : (len : Int) ≤ 9223372036854775807 := by omega) (hd : okDst n d = true := by exact rfl) :
    L P n opa QQ (⟨d, .makeSlice T x y, ty, pos, es, none⟩ :: rest) ρ w := L_step rfl hd (s_makeSlice hw hx hy hb h63 h)
end
end Mk
end
/- The reference's parser: attributes' names, their places, numbers as ints. -/
section
open Go Mk
namespace Go.Proofs.YtnkekcippfdbgaaGreat
set_option maxHeartbeats 8000000
attribute [local irreducible] Calls posAt endP

def attrL (kind : ByteArray) : List ByteArray :=
  if kind = coreB then [widthB, nodeB, speedB] else if kind = cacheB then [levelB, lineB, sizeB, coresB] else if kind = linkB then [latencyB]
  else if kind = memoryB then [baseB, sizeB, nodeB, latencyB] else if kind = deviceB then [nodeB, irqB, baseB, sizeB] else []
section
variable {Γ : Gho} {S : List Res} {w : World}
theorem Attributes_any (kind : ByteArray) (hw : Wd Γ S w) :
    Calls Tryz.prog 26 #[.string kind] w fun e w' => ∃ v, e = .returned v ∧ Wd Γ (.own v 9 1 (strRow (attrL kind)) :: S) w' := by
  refine calls_of_W Tryz.func26 rfl rfl ?_
  unfold attrL
  repeat (first | refine byW ?_ | (refine byV ?_; intro w hw))
  refine W_cond rfl (fun h => ?_) (fun h => ?_)
  · rw [if_pos (of_decide_eq_true h : kind = coreB)]
    repeat (first | refine byW ?_ | (refine byV ?_; intro w hw))
    refine lBuildSlice (strRow [widthB, nodeB, speedB]) ?_
    intro a w hw
    repeat (first | refine byW ?_ | (refine byV ?_; intro w hw))
    exact ⟨_, rfl, _, rfl, hw⟩
  rw [if_neg (of_decide_eq_false h : ¬ kind = coreB)]
  repeat (first | refine byW ?_ | (refine byV ?_; intro w hw))
  refine W_cond rfl (fun h => ?_) (fun h => ?_)
  · rw [if_pos (of_decide_eq_true h : kind = cacheB)]
    repeat (first | refine byW ?_ | (refine byV ?_; intro w hw))
    refine lBuildSlice (strRow [levelB, lineB, sizeB, coresB]) ?_
    intro a w hw
    repeat (first | refine byW ?_ | (refine byV ?_; intro w hw))
    exact ⟨_, rfl, _, rfl, hw⟩
  rw [if_neg (of_decide_eq_false h : ¬ kind = cacheB)]
  repeat (first | refine byW ?_ | (refine byV ?_; intro w hw))
  refine W_cond rfl (fun h => ?_) (fun h => ?_)
  · rw [if_pos (of_decide_eq_true h : kind = linkB)]
    repeat (first | refine byW ?_ | (refine byV ?_; intro w hw))
    refine lBuildSlice (strRow [latencyB]) ?_
    intro a w hw
    repeat (first | refine byW ?_ | (refine byV ?_; intro w hw))
    exact ⟨_, rfl, _, rfl, hw⟩
  rw [if_neg (of_decide_eq_false h : ¬ kind = linkB)]
  repeat (first | refine byW ?_ | (refine byV ?_; intro w hw))
  refine W_cond rfl (fun h => ?_) (fun h => ?_)
  · rw [if_pos (of_decide_eq_true h : kind = memoryB)]
    repeat (first | refine byW ?_ | (refine byV ?_; intro w hw))
    refine lBuildSlice (strRow [baseB, sizeB, nodeB, latencyB]) ?_
    intro a w hw
    repeat (first | refine byW ?_ | (refine byV ?_; intro w hw))
    exact ⟨_, rfl, _, rfl, hw⟩
  rw [if_neg (of_decide_eq_false h : ¬ kind = memoryB)]
  repeat (first | refine byW ?_ | (refine byV ?_; intro w hw))
  refine W_cond rfl (fun h => ?_) (fun h => ?_)
  · rw [if_pos (of_decide_eq_true h : kind = deviceB)]
    repeat (first | refine byW ?_ | (refine byV ?_; intro w hw))
    refine lBuildSlice (strRow [nodeB, irqB, baseB, sizeB]) ?_
    intro a w hw
    repeat (first | refine byW ?_ | (refine byV ?_; intro w hw))
    exact ⟨_, rfl, _, rfl, hw⟩
  rw [if_neg (of_decide_eq_false h : ¬ kind = deviceB)]
  repeat (first | refine byW ?_ | (refine byV ?_; intro w hw))
  exact ⟨_, rfl, _, rfl, Wd.addNil hw⟩
/-- The place of s in a list, or -1. -/
def idxS (l : List ByteArray) (s : ByteArray) : Int := match l.findIdx? (fun x => decide (x = s)) with | some k => k | none => -1
theorem idxS_some {l : List ByteArray} {s x : ByteArray} {k : Nat} (hx : l[k]? = some x) (he : x = s) (hl : ∀ j y, j < k → l[j]? = some y → y ≠ s) : idxS l s = k := by
  have : l.findIdx? (fun x => decide (x = s)) = some k := by
    obtain ⟨hk, hg⟩ := List.getElem?_eq_some_iff.1 hx
    rw [List.findIdx?_eq_some_iff_getElem]
    refine ⟨hk, by rw [hg]; simpa using he, fun j hj => ?_⟩
    have := hl j l[j] hj (List.getElem?_eq_getElem _)
    simpa using this
  unfold idxS; rw [this]
theorem idxS_none {l : List ByteArray} {s : ByteArray} (hl : ∀ y ∈ l, y ≠ s) : idxS l s = -1 := by
  have : l.findIdx? (fun x => decide (x = s)) = none := by
    rw [List.findIdx?_eq_none_iff]
    intro y hy; simpa using hl y hy
  unfold idxS; rw [this]
instance ps_index {a : Option Addr} {n c : Nat} {names : List ByteArray} (s : ByteArray) : PS Tryz.prog Γ (.own (.slice a n c) 9 1 (strRow names) :: S) 83 [.slice a n c, .string s] (.int .i64 (idxS names s)) := ⟨fun Y w hw => by
  have hw : Wd Γ (.own (.slice a n c) 9 1 (strRow names) :: (S ++ Y)) w := hw
  obtain ⟨_, _, _, e, hn, hm, hx⟩ := hw.own_shape (i := 0) rfl
  cases e
  simp only [List.length_map] at hn
  refine calls_of_W Tryz.func83 rfl rfl ?_
  repeat (first | refine byW ?_ | (refine byV ?_; intro w hw))
  refine W_loop (fun μ ρ w => ∃ (k : Nat), μ + k = n ∧ (∀ j y, j < k → names[j]? = some y → y ≠ s) ∧ Has ρ [(0, .slice a n c), (1, .string s), (5, .int .i64 (k : Nat))] ∧ Wd Γ (.own (.slice a n c) 9 1 (strRow names) :: (S ++ Y)) w) n ⟨0, by omega, by simp, ⟨rfl, rfl, rfl, trivial⟩, hw⟩ ?_
  clear hw
  rintro μ ρ w ⟨k, hk, hj, hρ, hw⟩
  rw [hρ.eq]
  repeat (first | refine byW ?_ | (refine byV ?_; intro w hw))
  refine W_cond rfl (fun h => ?_) (fun h => ?_)
  · have hkn : k < n := by simpa using h
    obtain ⟨x, hx⟩ := get_lt (l := names) (k := k) (by omega)
    repeat (first | refine byW ?_ | (refine byV ?_; intro w hw))
    refine W_cond rfl (fun h2 => ?_) (fun h2 => ?_)
    · rw [idxS_some hx (of_decide_eq_true h2) hj]
      repeat (first | refine byW ?_ | (refine byV ?_; intro w hw))
      exact ⟨_, rfl, rfl, hw⟩
    · repeat (first | refine byW ?_ | (refine byV ?_; intro w hw))
      refine ⟨μ - 1, by omega, k + 1, by omega, fun j y hjk hy => ?_, ⟨rfl, rfl, rfl, trivial⟩, hw⟩
      rcases Nat.lt_succ_iff_lt_or_eq.1 hjk with hlt | rfl
      · exact hj j y hlt hy
      · rw [hx] at hy; cases hy
        exact of_decide_eq_false h2
  have hkn : ¬ k < n := by simpa using h
  rw [idxS_none (fun y hy => by
    obtain ⟨j, hj2⟩ := List.getElem?_of_mem hy
    exact hj j y (by have := (List.getElem?_eq_some_iff.1 hj2).1; omega) hj2)]
  repeat (first | refine byW ?_ | (refine byV ?_; intro w hw))
  exact ⟨_, rfl, rfl, hw⟩⟩
theorem ints_any {a : Option Addr} {n c : Nat} {l : List Int} (hr : RepS Γ (.slice a n c) 1 (numRows l)) (hbig : l.length ≤ 1000000) (hw : Wd Γ S w) :
    Calls Tryz.prog 27 #[.slice a n c] w fun e w' => ∃ v, e = .returned v ∧ Wd Γ (.own v 3 1 (intRows (l.map fun v => IntKind.i64.wrap v)) :: S) w' := by
  obtain ⟨_, _, _, e, hn, hm, hx⟩ := hr.shape
  cases e
  simp only [numRows, List.length_map] at hn
  refine calls_of_W Tryz.func27 rfl rfl ?_
  repeat (first | refine byW ?_ | (refine byV ?_; intro w hw))
  refine W_loop (fun μ ρ w => ∃ (k : Nat) (v : Value), μ + k = n ∧ Has ρ [(0, .slice a n c), (3, v), (4, .int .i64 (k : Nat))] ∧ Wd Γ (.own v 3 1 (intRows ((l.take k).map fun v => IntKind.i64.wrap v)) :: S) w) n ⟨0, .slice none 0 0, by omega, ⟨rfl, rfl, rfl, trivial⟩, Wd.addNil hw⟩ ?_
  clear hw
  rintro μ ρ w ⟨k, v, hk, hρ, hw⟩
  rw [hρ.eq]
  repeat (first | refine byW ?_ | (refine byV ?_; intro w hw))
  refine W_cond rfl (fun h => ?_) (fun h => ?_)
  · have hkn : k < n := by simpa using h
    obtain ⟨x, hx⟩ := get_lt (l := l) (k := k) (by omega)
    obtain ⟨qa, qn, qc, rfl, hqn, -, -⟩ := hw.own_shape (i := 0) rfl
    simp only [intRows, List.length_map, List.length_take] at hqn
    have hrow : (numRows l)[k]? = some [.int .u64 x] := by simp [numRows, hx]
    repeat (first | refine byW ?_ | (refine byV ?_; intro w hw))
    refine lBuildSlice [[.int .i64 (IntKind.i64.wrap x)]] ?_
    intro aN w hw
    refine lApp (i := 1) (rows2 := [[.int .i64 (IntKind.i64.wrap x)]]) ?_ (Wd.own_rd (i := 0) hw rfl)
    intro v' w hw
    repeat (first | refine byW ?_ | (refine byV ?_; intro w hw))
    have hw := hw.drop
    have hw : Wd Γ (.own v' 3 1 (intRows ((l.take (k + 1)).map fun v => IntKind.i64.wrap v)) :: S) w := by
      rw [take_succ_of hx, List.map_append]
      unfold intRows
      rw [List.map_append]
      exact hw
    exact ⟨μ - 1, by omega, k + 1, v', by omega, ⟨rfl, rfl, rfl, trivial⟩, hw⟩
  have hkn : ¬ k < n := by simpa using h
  rw [List.take_of_length_le (by omega)] at hw
  repeat (first | refine byW ?_ | (refine byV ?_; intro w hw))
  exact ⟨_, rfl, v, rfl, hw⟩
end
end Go.Proofs.YtnkekcippfdbgaaGreat
end
/- The reference's parser: an item's attributes. -/
section
open Go Mk
namespace Go.Proofs.YtnkekcippfdbgaaGreat
set_option maxHeartbeats 16000000
attribute [local irreducible] Calls posAt endP

def osR (os : List NumH) : List (List Value) := os.map fun h => [numV h]
theorem osR_len (os : List NumH) : (osR os).length = os.length := List.length_map ..
theorem osR_get {os : List NumH} {k : Nat} {h : NumH} (hk : os[k]? = some h) : (osR os)[k]? = some [numV h] := by unfold osR; rw [List.getElem?_map, hk]; rfl
theorem osR_set {os : List NumH} {k : Nat} (h : NumH) : (osR os).set k [numV h] = osR (os.set k h) := by unfold osR; rw [List.map_set]
theorem set_same {α : Type} {l : List α} {k : Nat} {x : α} (h : l[k]? = some x) : l.set k x = l := by
  refine List.ext_getElem? fun i => ?_
  rw [List.getElem?_set]
  split
  · rename_i e; subst e
    rw [h, if_pos (List.getElem?_eq_some_iff.1 h).1]
  · rfl
theorem nextP_ok {toks : List Tok} {e : PosT} {kind : Int} {k : Nat} (h : kindS toks k kind = true) : ∃ t, toks[k]? = some t ∧ nextP toks e kind k = .ok (t, k) := by
  unfold kindS at h
  cases hg : toks[k]? with
  | none => rw [hg] at h; cases h
  | some t =>
    rw [hg] at h
    refine ⟨t, rfl, ?_⟩
    unfold nextP
    rw [hg]
    exact if_pos (of_decide_eq_true h)
theorem nextP_bad {toks : List Tok} {e : PosT} {kind : Int} {k : Nat} (h : kindS toks k kind = false) : nextP toks e kind k = .error (posOf toks k e, 50) := by
  unfold kindS at h
  unfold nextP
  cases hg : toks[k]? with
  | none => rfl
  | some t =>
    rw [hg] at h
    exact if_neg (of_decide_eq_false h)
theorem numberP_bad {toks : List Tok} {e : PosT} {lim : Bool} {k : Nat} (h : kindS toks k 2 = false) : numberP toks e lim k = .error (posOf toks k e, 50) := by
  unfold numberP; rw [nextP_bad h]
theorem numberP_of {toks : List Tok} {e : PosT} {lim : Bool} {k : Nat} {t : Tok} (h : nextP toks e 2 k = .ok (t, k)) : numberP toks e lim k = if lim = true ∧ 2147483647 < t.Value then .error (posOf toks k e, 6) else .ok (t.Value, k + 1) := by
  unfold numberP; rw [h]
/-- The state after a reading. -/
def StE {α : Type} : PR α → RS → Prop
  | .ok (_, k), τ => τ.er = 0 ∧ τ.I = k
  | .error (p, er), τ => τ.p = p ∧ τ.er = er ∧ er ≠ 0
def ItemPost (Γ : Gho) (names : List ByteArray) (vo : Value) (τ : RS) : PR Got → Prop
  | .ok (got, k) => τ.er = 0 ∧ τ.I = k ∧ ∃ hs : List NumH, RepS Γ vo 1 (osR hs) ∧ (∀ h ∈ hs, NOk Γ h) ∧ hs.map (·.L) = names.map fun s => (aGet got s).getD []
  | .error (p, er) => τ.p = p ∧ τ.er = er ∧ er ≠ 0
theorem expect_eq {toks : List Tok} {e : PosT} {kind : Int} {text : ByteArray} {k : Nat} : expectP toks e kind text k = if isS toks k kind text = true then .ok ((), k + 1) else .error (posOf toks k e, 50) := rfl
theorem needS_er {toks : List Tok} {e : PosT} {τ : RS} {kind : Int} {text : ByteArray} (h : τ.er ≠ 0) : needS toks e τ kind text = τ := by
  unfold needS failS
  rw [if_neg (by simp [h]), if_neg h]
theorem needS_st {toks : List Tok} {e : PosT} {τ : RS} {kind : Int} {text : ByteArray} (h : τ.er = 0) : StE (expectP toks e kind text τ.I) (needS toks e τ kind text) := by
  rw [expect_eq]
  unfold needS failS
  by_cases hi : isS toks τ.I kind text = true
  · rw [if_pos hi, if_pos (by simp [h, hi])]
    exact ⟨h, rfl⟩
  · rw [if_neg hi, if_neg (by simp [hi]), if_pos h]
    exact ⟨rfl, rfl, by decide⟩
/-- All names have numbers, or one has none. -/
theorem got_all {got : Got} {names : List ByteArray} {os : List NumH} (hn : names.Nodup) (hm : os.map (·.L) = names.map fun s => (aGet got s).getD []) (h : ∀ (j : Nat) x, os[j]? = some x → x.L ≠ []) : ¬ got.length < names.length := fun hlt => by
  have hs : ∀ x ∈ names, x ∈ got.map (·.1) := fun x hx => by
    obtain ⟨j, hj⟩ := List.getElem?_of_mem hx
    have hjl := (List.getElem?_eq_some_iff.1 hj).1
    have hlen : os.length = names.length := by have := congrArg List.length hm; simpa using this
    obtain ⟨y, hy⟩ := get_lt (l := os) (k := j) (by omega)
    have h1 : (os.map (·.L))[j]? = some y.L := by rw [List.getElem?_map, hy]; rfl
    rw [hm, List.getElem?_map, hj] at h1
    have h1 : (aGet got x).getD [] = y.L := by simpa using h1
    cases hg : aGet got x with
    | none => rw [hg] at h1; exact absurd h1.symm (h j y hy)
    | some v => exact aGet_some_iff.1 ⟨v, hg⟩
  have := nodup_le names (got.map (·.1)) hn hs
  simp at this; omega
theorem got_miss {got : Got} {names : List ByteArray} {os : List NumH} {j : Nat} {x : NumH} (hgn : (got.map (·.1)).Nodup) (hgs : ∀ p ∈ got, p.1 ∈ names ∧ p.2 ≠ []) (hm : os.map (·.L) = names.map fun s => (aGet got s).getD []) (hx : os[j]? = some x) (hl : x.L = []) : got.length < names.length := by
  rcases Nat.lt_or_ge got.length names.length with h | h
  · exact h
  · exfalso
    have hlen : os.length = names.length := by have := congrArg List.length hm; simpa using this
    obtain ⟨y, hy⟩ := get_lt (l := names) (k := j) (by have := (List.getElem?_eq_some_iff.1 hx).1; omega)
    have hall := nodup_all hgn (fun z hz => by obtain ⟨p, hp, rfl⟩ := List.mem_map.1 hz; exact (hgs p hp).1) (by simpa using h) y (List.mem_of_getElem? hy)
    obtain ⟨v, hv⟩ := aGet_some_iff.2 hall
    have h1 : (os.map (·.L))[j]? = some x.L := by rw [List.getElem?_map, hx]; rfl
    rw [hm, List.getElem?_map, hy] at h1
    have h1 : (aGet got y).getD [] = x.L := by simpa using h1
    rw [hv, hl] at h1
    exact (hgs _ (aGet_mem hv)).2 h1
theorem aGet_cons {β : Type} {m : List (ByteArray × β)} {a b : ByteArray} {v : β} : aGet ((a, v) :: m) b = if a = b then some v else aGet m b := by
  unfold aGet aIx
  rw [List.findIdx?_cons]
  by_cases e : a = b
  · rw [if_pos (by simpa using e), if_pos e]; rfl
  · rw [if_neg (by simpa using e), if_neg e]
    cases List.findIdx? _ m with
    | none => rfl
    | some i => rfl
theorem aGet_snoc {β : Type} {a b : ByteArray} {v : β} : ∀ {m : List (ByteArray × β)}, aGet m a = none → aGet (m ++ [(a, v)]) b = if b = a then some v else aGet m b
  | [], _ => by
    rw [List.nil_append, aGet_cons]
    by_cases e : b = a
    · rw [if_pos e, if_pos e.symm]
    · rw [if_neg e, if_neg (fun q => e q.symm)]
  | (c, u) :: m, h => by
    rw [aGet_cons] at h
    by_cases hc : c = a
    · rw [if_pos hc] at h; cases h
    · rw [if_neg hc] at h
      rw [List.cons_append, aGet_cons, aGet_cons, aGet_snoc h]
      by_cases e : c = b
      · rw [if_pos e, if_pos e, if_neg (fun q => hc (e.trans q))]
      · rw [if_neg e, if_neg e]
theorem nodup_get {α : Type} {l : List α} (hn : l.Nodup) {i j : Nat} {x : α} (hi : l[i]? = some x) (hj : l[j]? = some x) : i = j := by
  rw [List.nodup_iff_pairwise_ne] at hn
  rw [List.pairwise_iff_getElem] at hn
  obtain ⟨p1, p2⟩ := List.getElem?_eq_some_iff.1 hi
  obtain ⟨p3, p4⟩ := List.getElem?_eq_some_iff.1 hj
  rcases Nat.lt_trichotomy i j with q | q | q
  · exact absurd (p2.trans p4.symm) (hn i j p1 p3 q)
  · exact q
  · exact absurd (p4.trans p2.symm) (hn j i p3 p1 q)
theorem os_snoc {got : Got} {names : List ByteArray} {os : List NumH} {j : Nat} {x : ByteArray} {h : NumH} (hn : names.Nodup) (hx : names[j]? = some x) (hg : aGet got x = none) (hm : os.map (·.L) = names.map fun s => (aGet got s).getD []) : (os.set j h).map (·.L) = names.map fun s => (aGet (got ++ [(x, h.L)]) s).getD [] := by
  rw [List.map_set, hm]
  refine List.ext_getElem? fun i => ?_
  rw [List.getElem?_set, List.getElem?_map, List.getElem?_map]
  by_cases e : j = i
  · subst e
    rw [if_pos rfl, hx, if_pos (by have := (List.getElem?_eq_some_iff.1 hx).1; simpa using this)]
    simp [aGet_snoc hg]
  · rw [if_neg e]
    cases hy : names[i]? with
    | none => rfl
    | some y =>
      have hne : y ≠ x := fun q => by
        subst q
        exact e (nodup_get hn hx hy)
      simp [aGet_snoc hg, hne]
end Go.Proofs.YtnkekcippfdbgaaGreat
end
/- The reference's parser: item (printed by a program). -/
section
open Go Mk
namespace Go.Proofs.YtnkekcippfdbgaaGreat
set_option maxHeartbeats 16000000
attribute [local irreducible] Calls posAt endP

def capX (toks : List Tok) (e : PosT) (names : List ByteArray) : PR Got → PR Got
  | .error q => .error q
  | .ok (got, k2) => if got.length < names.length then .error (posOf toks k2 e, 50) else .ok (got, k2 + 1)
def headX (toks : List Tok) (e : PosT) (names : List ByteArray) (σ : RS) : PR Got := if σ.er = 0 then (match expectP toks e 4 openB σ.I with | .error q => .error q | .ok (_, k1) => attrN toks e names (toks.length + 1) k1 []) else .error (σ.p, σ.er)
theorem attr_split {toks : List Tok} {e : PosT} {names : List ByteArray} {σ : RS} : (if σ.er = 0 then attrP toks e names σ.I else .error (σ.p, σ.er)) = capX toks e names (headX toks e names σ) := by
  unfold headX
  by_cases h : σ.er = 0
  · rw [if_pos h, if_pos h]
    unfold attrP
    cases expectP toks e 4 openB σ.I with
    | error q => rfl
    | ok q => rfl
  · rw [if_neg h, if_neg h]; rfl
theorem head_st {toks : List Tok} {e : PosT} {names : List ByteArray} {σ : RS} : (if (needS toks e σ 4 openB).er = 0 then headX toks e names σ = attrN toks e names (toks.length + 1) (needS toks e σ 4 openB).I [] else headX toks e names σ = .error ((needS toks e σ 4 openB).p, (needS toks e σ 4 openB).er)) := by
  unfold headX
  by_cases h : σ.er = 0
  · have h2 := needS_st (toks := toks) (e := e) (kind := 4) (text := openB) h
    rw [if_pos h]
    cases hE : expectP toks e 4 openB σ.I with
    | error q =>
      rw [hE] at h2
      obtain ⟨p, er⟩ := q
      obtain ⟨h3, h4, h5⟩ := h2
      rw [if_neg (by rw [h4]; exact h5), h3, h4]
    | ok q =>
      rw [hE] at h2
      obtain ⟨u, k⟩ := q
      obtain ⟨h3, h4⟩ := h2
      rw [if_pos h3, h4]
  · rw [if_neg h, needS_er h, if_neg h]
def MidP (toks : List Tok) (names : List ByteArray) (os : List NumH) (τ : RS) : PR Got → Prop
  | .ok (got, k2) => τ.er = 0 ∧ τ.I = k2 ∧ isS toks k2 4 closeB = true ∧ os.map (·.L) = names.map (fun s => (aGet got s).getD []) ∧ (got.map (·.1)).Nodup ∧ (∀ p ∈ got, p.1 ∈ names ∧ p.2 ≠ [])
  | .error (p, er) => τ.p = p ∧ τ.er = er ∧ er ≠ 0
def numX (toks : List Tok) (e : PosT) (lim cr : Bool) (μ : Nat) (l : List Int) (kc : Nat) : PR (List Int) := match numberP toks e lim kc with
  | .ok (v, k1) => moreN toks e lim cr μ k1 (l ++ [v])
  | .error q => .error q
def tailX (toks : List Tok) (e : PosT) (names : List ByteArray) (f : Nat) (got : Got) (txt : ByteArray) : PR (List Int) → PR Got
  | .error q => .error q
  | .ok (l, k2) => match expectP toks e 4 semiB k2 with
    | .error q => .error q
    | .ok (_, k3) => attrN toks e names f k3 (got ++ [(txt, l)])
theorem one_tail {toks : List Tok} {e : PosT} {names : List ByteArray} {f k : Nat} {got : Got} {t : Tok} (hN : nextP toks e 1 k = .ok (t, k)) (h1 : memB t.Text names = true) (h2 : memB t.Text (got.map (·.1)) = false) :
    (match oneAttr toks e names got k with | .error q => .error q | .ok (p, k3) => attrN toks e names f k3 (got ++ [p])) = tailX toks e names f got t.Text (numX toks e (limB t.Text) (decide (t.Text = coresB)) (toks.length + 1) [] (k + 1)) := by
  unfold oneAttr numX
  rw [hN]
  dsimp only
  rw [if_neg (by rw [h1]; decide), if_neg (by rw [h2]; decide)]
  cases numberP toks e (limB t.Text) (k + 1) with
  | error q => rfl
  | ok q =>
    obtain ⟨v, k1⟩ := q
    dsimp only
    rw [List.nil_append]
    cases moreN toks e (limB t.Text) (decide (t.Text = coresB)) (toks.length + 1) k1 [v] with
    | error q => rfl
    | ok q =>
      obtain ⟨l, k2⟩ := q
      unfold tailX
      dsimp only
      cases expectP toks e 4 semiB k2 with
      | error q => rfl
      | ok q => rfl
def NumP (τ : RS) (l : List Int) : PR (List Int) → Prop
  | .ok (l', k2) => τ.er = 0 ∧ τ.I = k2 ∧ l = l'
  | .error (p, er) => τ.p = p ∧ τ.er = er ∧ er ≠ 0
def OneP (τ : RS) (v : Int) : PR Int → Prop
  | .ok (v', k2) => τ.er = 0 ∧ τ.I = k2 ∧ v = v'
  | .error (p, er) => τ.p = p ∧ τ.er = er ∧ er ≠ 0
theorem memB_idx {names : List ByteArray} {x : ByteArray} (hnd : names.Nodup) (h : memB x names = true) : ∃ j, names[j]? = some x ∧ idxS names x = (j : Nat) := by
  unfold memB at h
  obtain ⟨y, hy, he⟩ := List.any_eq_true.1 h
  have he : x = y := of_decide_eq_true he
  subst he
  obtain ⟨j, hj⟩ := List.getElem?_of_mem hy
  exact ⟨j, hj, idxS_some hj rfl (fun i y hi hy2 e => by subst e; exact absurd (nodup_get hnd hy2 hj) (by omega))⟩
theorem memB_no {names : List ByteArray} {x : ByteArray} (h : memB x names = false) : idxS names x = -1 := idxS_none fun y hy e => by
  unfold memB at h
  rw [List.any_eq_false] at h
  exact h y hy (by simp [e])
theorem memB_got {got : Got} {x : ByteArray} : memB x (got.map (·.1)) = (aGet got x).isSome := by
  rw [Bool.eq_iff_iff, Option.isSome_iff_exists]
  unfold memB
  rw [List.any_eq_true]
  constructor
  · rintro ⟨y, hy, e⟩
    have e : x = y := of_decide_eq_true e
    subst e; exact aGet_some_iff.2 hy
  · intro h
    exact ⟨x, aGet_some_iff.1 h, decide_eq_true rfl⟩
theorem num_stop {toks : List Tok} {e : PosT} {lim cr : Bool} {f kc : Nat} {l : List Int} {τ : RS} {v : Int} (hone : OneP τ v (numberP toks e lim kc)) (hs : τ.er = 0 → (cr && isS toks τ.I 4 commaB) = false) : NumP τ (l ++ [v]) (numX toks e lim cr (f + 1) l kc) := by
  unfold numX
  cases hN : numberP toks e lim kc with
  | error q =>
    rw [hN] at hone
    obtain ⟨p, er⟩ := q
    exact hone
  | ok q =>
    rw [hN] at hone
    obtain ⟨v', k1⟩ := q
    obtain ⟨h1, h2, h3⟩ := hone
    dsimp only
    subst h3
    rw [moreN_stop (by rw [← h2, hs h1]; decide)]
    exact ⟨h1, h2, rfl⟩
theorem num_go {toks : List Tok} {e : PosT} {lim cr : Bool} {f kc : Nat} {l : List Int} {τ : RS} {v : Int} (hone : OneP τ v (numberP toks e lim kc)) (h0 : τ.er = 0) (hs : (cr && isS toks τ.I 4 commaB) = true) : numX toks e lim cr (f + 1) l kc = numX toks e lim cr f (l ++ [v]) (τ.I + 1) := by
  unfold numX
  cases hN : numberP toks e lim kc with
  | error q =>
    rw [hN] at hone
    obtain ⟨p, er⟩ := q
    exact absurd (hone.2.1.symm.trans h0) hone.2.2
  | ok q =>
    rw [hN] at hone
    obtain ⟨v', k1⟩ := q
    obtain ⟨h1, h2, h3⟩ := hone
    dsimp only
    subst h3
    rw [← h2, moreN_step hs]
    cases numberP toks e lim (τ.I + 1) <;> rfl
theorem nodup_app1 {α : Type} {l : List α} {x : α} (h : l.Nodup) (hx : x ∉ l) : (l ++ [x]).Nodup := by
  rw [List.nodup_append]
  exact ⟨h, by simp, fun a ha b hb => by rw [List.mem_singleton.1 hb]; intro e; subst e; exact hx ha⟩
theorem item_ref {Γ : Gho} {S : List Res} {w : World} {bp : Nat} {s : ByteArray} {a : Option Addr} {n c : Nat} {σ : RS} {toks : List Tok} (names : List ByteArray) (vn : Value) [ht : RTok Γ a n c toks] [hs : SZ s] (hI : σ.I ≤ n) (hnd : names.Nodup) (hnl : names.length ≤ 8) (hw : Wd Γ (rpB bp s a n c σ :: .own vn 9 1 (strRow names) :: S) w) :
    Calls Tryz.prog 25 #[.pointer (some ⟨bp, 0, none⟩), vn] w fun r w' => ∃ (Γ' : Gho) (vo : Value) (τ : RS), Γ.le Γ' ∧ r = .returned vo ∧ τ.I ≤ n ∧ ItemPost Γ' names vo τ (if σ.er = 0 then attrP toks (endP s) names σ.I else .error (σ.p, σ.er)) ∧ Wd Γ' (rpB bp s a n c τ :: S) w' := by
  obtain ⟨hn, hnc, hc⟩ := ht.len
  have hbig := ht.big
  obtain ⟨an, nn, cn, rfl, hnn, hnnc, hcn⟩ := hw.own_shape (i := 1) rfl
  simp only [List.length_map] at hnn
  refine calls_of_W Tryz.func25 rfl rfl ?_
  repeat (first | refine byW ?_ | (refine byV ?_; intro w hw))
  refine lMakeSlice ?_
  intro ao w hw
  obtain ⟨ao, hao⟩ : ∃ a' : Option Addr, a' = some ao := ⟨_, rfl⟩
  rw [← hao] at hw ⊢
  clear hao
  have hw : Wd Γ (rpB bp s a n c σ :: .own (.slice an nn cn) 9 1 (strRow names) :: .own (.slice ao nn nn) 70 1 (osR (List.replicate nn (default : NumH))) :: S) w := by
    have : osR (List.replicate nn (default : NumH)) = List.replicate nn [.slice none 0 0] := by unfold osR; rw [List.map_replicate]; rfl
    rw [this]; exact hw.ps [2, 2]
  repeat (first | refine byW ?_ | (refine byV ?_; intro w hw))
  refine lCall ?_
  refine (Need_any 4 openB hw).mono ?_
  clear hw
  rintro r w ⟨rfl, hw⟩
  refine ⟨_, rfl, ?_⟩
  rw [attr_split]
  have hst := head_st (toks := toks) (e := endP s) (names := names) (σ := σ)
  generalize headX toks (endP s) names σ = X0 at *
  have hI0 := needS_I (toks := toks) (σ := σ) (e := endP s) (kind := 4) (text := openB) (by omega)
  generalize needS toks (endP s) σ 4 openB = τ0 at *
  have hnil : NOk Γ (default : NumH) := RepS.nil
  repeat (first | refine byW ?_ | (refine byV ?_; intro w hw))
  refine W_cutB (fun ρ w => ∃ (τ : RS) (os : List NumH) (Γ' : Gho), Γ.le Γ' ∧ τ.I ≤ n ∧ os.length = names.length ∧ (∀ h ∈ os, NOk Γ' h) ∧ MidP toks names os τ X0 ∧ Has ρ [(0, .pointer (some ⟨bp, 0, none⟩)), (1, .slice an nn cn), (5, .slice ao nn nn) ] ∧ Wd Γ' (rpB bp s a n c τ :: .own (.slice an nn cn) 9 1 (strRow names) :: .own (.slice ao nn nn) 70 1 (osR os) :: S) w) ?_ ?_
  · refine W_loop (fun μ ρ w => ∃ (τ : RS) (os : List NumH) (Γ' : Gho), Γ.le Γ' ∧ τ.I ≤ n ∧ os.length = names.length ∧ (∀ h ∈ os, NOk Γ' h) ∧ (∀ h ∈ os, h.L = [] → h = default) ∧ (if τ.er = 0 then ∃ got, n < μ + τ.I ∧ X0 = attrN toks (endP s) names μ τ.I got ∧ os.map (·.L) = names.map (fun s => (aGet got s).getD []) ∧ (got.map (·.1)).Nodup ∧ (∀ p ∈ got, p.1 ∈ names ∧ p.2 ≠ []) else X0 = .error (τ.p, τ.er)) ∧ Has ρ [(0, .pointer (some ⟨bp, 0, none⟩)), (1, .slice an nn cn), (5, .slice ao nn nn) ] ∧ Wd Γ' (rpB bp s a n c τ :: .own (.slice an nn cn) 9 1 (strRow names) :: .own (.slice ao nn nn) 70 1 (osR os) :: S) w) (toks.length + 1) ?_ ?_
    · refine ⟨τ0, List.replicate nn default, Γ, Gho.le.refl _, by omega, by simp; omega, fun h hh => by rw [List.eq_of_mem_replicate hh]; exact hnil, fun h hh _ => List.eq_of_mem_replicate hh, ?_, ⟨rfl, rfl, rfl, trivial⟩, hw⟩
      by_cases h0 : τ0.er = 0
      · rw [if_pos h0] at hst ⊢
        refine ⟨[], by omega, hst, ?_, by simp, by simp⟩
        rw [List.map_replicate, hnn]
        show List.replicate names.length ([] : List Int) = names.map fun _ => ([] : List Int)
        rw [List.map_const']
      · rw [if_neg h0] at hst ⊢
        exact hst
    clear hw hst hI0
    rintro μ ρ w ⟨τ, os, Γ', hle, hτI, hol, hok, hdf, hm, hρ, hw⟩
    rw [hρ.eq]
    clear hρ
    haveI := ht.mono hle
    repeat (first | refine byW ?_ | (refine byV ?_; intro w hw) | (apply L_plain; apply L_go; refine lPs ?_; intro w hw) | (apply L_guarded; apply L_go; refine lPsG ?_; intro w hw))
    refine W_cond rfl (fun h => ?_) (fun h => ?_)
    rotate_left
    · -- the end of the loop
      repeat (first | refine byW ?_ | (refine byV ?_; intro w hw))
      refine ⟨τ, os, Γ', hle, hτI, hol, hok, ?_, ⟨rfl, rfl, rfl, trivial⟩, hw⟩
      by_cases h0 : τ.er = 0
      · rw [if_pos h0] at hm
        obtain ⟨got, hμ, hX, hos, hgn, hgs⟩ := hm
        have hcl : isS toks τ.I 4 closeB = true := by
          cases hi : isS toks τ.I 4 closeB with
          | true => rfl
          | false =>
            have q : (decide (τ.er = 0) && !(decide (τ.er = 0) && isS toks τ.I 4 closeB)) = true := by rw [hi, decide_eq_true h0]; rfl
            exact absurd (q.symm.trans h) (by decide)
        obtain ⟨f, rfl⟩ : ∃ f, μ = f + 1 := ⟨μ - 1, by omega⟩
        have : X0 = .ok (got, τ.I) := by
          rw [hX]
          show (if isS toks τ.I 4 closeB = true then _ else _) = _
          rw [if_pos hcl]
        rw [this]
        exact ⟨h0, rfl, hcl, hos, hgn, hgs⟩
      · rw [if_neg h0] at hm
        rw [hm]
        exact ⟨rfl, rfl, h0⟩
    have h0 : τ.er = 0 ∧ isS toks τ.I 4 closeB = false := by
      have q : (decide (τ.er = 0) && !(decide (τ.er = 0) && isS toks τ.I 4 closeB)) = true := h
      by_cases h0 : τ.er = 0
      · rw [decide_eq_true h0] at q
        simpa [h0] using q
      · rw [decide_eq_false h0] at q; cases q
    obtain ⟨h0, hcl⟩ := h0
    rw [if_pos h0] at hm
    obtain ⟨got, hμ, hX, hos, hgn, hgs⟩ := hm
    obtain ⟨f, rfl⟩ : ∃ f, μ = f + 1 := ⟨μ - 1, by omega⟩
    have hX : X0 = match oneAttr toks (endP s) names got τ.I with | .error q => .error q | .ok (p, k3) => attrN toks (endP s) names f k3 (got ++ [p]) := by
      rw [hX]
      show (if isS toks τ.I 4 closeB = true then _ else _) = _
      rw [if_neg (by rw [hcl]; decide)]
      rfl
    obtain ⟨k0, p0, e0⟩ := τ
    have h0 : e0 = 0 := h0
    subst h0
    have hτI : k0 ≤ n := hτI
    have hμ : n < f + 1 + k0 := hμ
    have hX : X0 = match oneAttr toks (endP s) names got k0 with | .error q => .error q | .ok (p, k3) => attrN toks (endP s) names f k3 (got ++ [p]) := hX
    clear h hcl
    repeat (first | refine byW ?_ | (refine byV ?_; intro w hw))
    refine lCall ?_
    refine (Any_any 1 hτI hw).mono ?_
    clear hw
    rintro r w ⟨rfl, hw⟩
    refine ⟨_, rfl, ?_⟩
    -- an error is left: what is returned
    cases hk : kindS toks k0 1 with
    | false =>
      have hA : anyS toks (endP s) ⟨k0, p0, 0⟩ 1 = (default, ⟨k0, posOf toks k0 (endP s), 50⟩) := by unfold anyS failS; rw [hk]; rfl
      rw [hA] at hw ⊢
      have hX : X0 = .error (posOf toks k0 (endP s), 50) := by rw [hX]; unfold oneAttr; rw [nextP_bad hk]
      rw [hX]
      refine lAlloc ?_
      intro b6 w hw
      refine lStore ?_
      intro w hw
      have hw : Wd Γ' (.own (.slice an nn cn) 9 1 (strRow names) :: rpB bp s a n c ⟨k0, posOf toks k0 (endP s), 50⟩ :: .own (.slice ao nn nn) 70 1 (osR os) :: .blk b6 (.cells (enc (default : Tok)).toArray 63) :: S) w := hw.ps [3, 2, 3]
      repeat (first | refine byW ?_ | (refine byV ?_; intro w hw) | (apply L_plain; apply L_go; refine lPs ?_; intro w hw) | (apply L_guarded; apply L_go; refine lPsG ?_; intro w hw))
      have hw := hw.ps [1]
      have hw : Wd Γ' (rpB bp s a n c ⟨k0, posOf toks k0 (endP s), 50⟩ :: .own (.slice an nn cn) 9 1 (strRow names) :: .own (.slice ao nn nn) 70 1 (osR os) :: .blk b6 (.cells (enc (default : Tok)).toArray 63) :: S) w := hw
      repeat (first | refine byW ?_ | (refine byV ?_; intro w hw) | (apply L_plain; apply L_go; refine lPs ?_; intro w hw) | (apply L_guarded; apply L_go; refine lPsG ?_; intro w hw))
      refine W_cond rfl (fun h => ?_) (fun h => ?_)
      · repeat (first | refine byW ?_ | (refine byV ?_; intro w hw))
        exact ⟨_, rfl, Γ', _, _, hle, rfl, hτI, ⟨rfl, rfl, by decide⟩, ((hw.dropAt 3).dropAt 2).dropAt 1⟩
      · exact absurd h (show ¬ (!decide ((50 : Int) = 0)) = false by decide)
    | true =>
      obtain ⟨t, htk, hN1⟩ := nextP_ok (e := endP s) hk
      have hlt := (List.getElem?_eq_some_iff.1 htk).1
      have hA : anyS toks (endP s) ⟨k0, p0, 0⟩ 1 = (t, ⟨k0 + 1, p0, 0⟩) := by unfold anyS; rw [hk, htk]; rfl
      rw [hA] at hw ⊢
      clear hA hk
      refine lAlloc ?_
      intro b6 w hw
      refine lStore ?_
      intro w hw
      have hw : Wd Γ' (.own (.slice an nn cn) 9 1 (strRow names) :: rpB bp s a n c ⟨k0 + 1, p0, 0⟩ :: .own (.slice ao nn nn) 70 1 (osR os) :: .blk b6 (.cells (enc t).toArray 63) :: S) w := hw.ps [3, 2, 3]
      repeat (first | refine byW ?_ | (refine byV ?_; intro w hw) | (apply L_plain; apply L_go; refine lPs ?_; intro w hw) | (apply L_guarded; apply L_go; refine lPsG ?_; intro w hw))
      have hw := hw.ps [1]
      have hw : Wd Γ' (rpB bp s a n c ⟨k0 + 1, p0, 0⟩ :: .own (.slice an nn cn) 9 1 (strRow names) :: .own (.slice ao nn nn) 70 1 (osR os) :: .blk b6 (.cells (enc t).toArray 63) :: S) w := hw
      repeat (first | refine byW ?_ | (refine byV ?_; intro w hw) | (apply L_plain; apply L_go; refine lPs ?_; intro w hw) | (apply L_guarded; apply L_go; refine lPsG ?_; intro w hw))
      refine W_cond rfl (fun h => ?_) (fun h => ?_)
      · exact absurd h (show ¬ (!decide ((0 : Int) = 0)) = true by decide)
      clear h
      have hRow : ∀ (j : Nat) (x : NumH), os[j]? = some x → (osR os)[j]? = some [.slice x.A x.N x.C] := fun j x hx => osR_get hx
      cases hmem : memB t.Text names with
      | false =>
        have hidx := memB_no hmem
        rw [hidx]
        have hX : X0 = .error (posOf toks k0 (endP s), 50) := by
          rw [hX]; unfold oneAttr; rw [hN1]; dsimp only; rw [if_pos hmem]
        rw [hX]
        repeat (first | refine byW ?_ | (refine byV ?_; intro w hw))
        refine W_cond_true rfl ?_
        have hw : Wd Γ' (.blk bp (.cells #[.string s, .slice a n c, .int .i64 ((k0 + 1 : Nat) : Int), .int .i64 p0.Line, .int .i64 p0.Col, .int .i64 0] 60) :: .own (.slice an nn cn) 9 1 (strRow names) :: .own (.slice ao nn nn) 70 1 (osR os) :: .blk b6 (.cells (enc t).toArray 63 ) :: S) w := hw
        repeat (first | refine byW ?_ | (refine byV ?_; intro w hw))
        refine lCall ?_
        refine (Fail_any (σ := ⟨k0 + 1, p0, 0⟩) (((k0 + 1 : Nat) : Int) - 1) k0 50 (fun _ => by omega) hw).mono ?_
        clear hw
        rintro r w ⟨rfl, hw⟩
        refine ⟨_, rfl, ?_⟩
        have hF : failS toks (endP s) ⟨k0 + 1, p0, 0⟩ k0 50 = ⟨k0 + 1, posOf toks k0 (endP s), 50⟩ := rfl
        rw [hF] at hw
        repeat (first | refine byW ?_ | (refine byV ?_; intro w hw))
        exact ⟨_, rfl, Γ', _, _, hle, rfl, (by show k0 + 1 ≤ n; omega), ⟨rfl, rfl, by decide⟩, ((hw.dropAt 3).dropAt 2).dropAt 1⟩
      | true =>
      obtain ⟨j, hj, hidx⟩ := memB_idx hnd hmem
      have hjl := (List.getElem?_eq_some_iff.1 hj).1
      obtain ⟨h, hh⟩ := get_lt (l := os) (k := j) (by omega)
      have hhok := hok h (List.mem_of_getElem? hh)
      obtain ⟨_, _, _, eN, hhn, -, -⟩ := RepS.shape hhok
      cases eN
      simp only [numRows, List.length_map] at hhn
      have hval : h.L = (aGet got t.Text).getD [] := by
        have h1 : (os.map (·.L))[j]? = some h.L := by rw [List.getElem?_map, hh]; rfl
        rw [hos, List.getElem?_map, hj] at h1
        simpa using h1.symm
      have hrow := hRow j h hh
      rw [hidx]
      repeat (first | refine byW ?_ | (refine byV ?_; intro w hw))
      refine W_cond_false (by show Value.bool (decide ((j : Int) < 0)) = _; rw [decide_eq_false (by omega)]) ?_
      repeat (first | refine byW ?_ | (refine byV ?_; intro w hw))
      refine W_cond rfl (fun h7 => ?_) (fun h7 => ?_)
      · have h7 : 0 < h.N := by have := of_decide_eq_true h7; omega
        have hdup : memB t.Text (got.map (·.1)) = true := by
          rw [memB_got]
          cases hg : aGet got t.Text with
          | some v => rfl
          | none =>
            rw [hg] at hval
            rw [hval] at hhn
            simp at hhn; omega
        have hX : X0 = .error (posOf toks k0 (endP s), 56) := by
          rw [hX]; unfold oneAttr; rw [hN1]; dsimp only; rw [if_neg (by rw [hmem]; decide), if_pos hdup]
        rw [hX]
        have hw : Wd Γ' (.blk bp (.cells #[.string s, .slice a n c, .int .i64 ((k0 + 1 : Nat) : Int), .int .i64 p0.Line, .int .i64 p0.Col, .int .i64 0] 60) :: .own (.slice an nn cn) 9 1 (strRow names) :: .own (.slice ao nn nn) 70 1 (osR os) :: .blk b6 (.cells (enc t).toArray 63 ) :: S) w := hw
        repeat (first | refine byW ?_ | (refine byV ?_; intro w hw))
        refine lCall ?_
        refine (Fail_any (σ := ⟨k0 + 1, p0, 0⟩) (((k0 + 1 : Nat) : Int) - 1) k0 56 (fun _ => by omega) hw).mono ?_
        clear hw
        rintro r w ⟨rfl, hw⟩
        refine ⟨_, rfl, ?_⟩
        have hF : failS toks (endP s) ⟨k0 + 1, p0, 0⟩ k0 56 = ⟨k0 + 1, posOf toks k0 (endP s), 56⟩ := rfl
        rw [hF] at hw
        repeat (first | refine byW ?_ | (refine byV ?_; intro w hw))
        exact ⟨_, rfl, Γ', _, _, hle, rfl, (by show k0 + 1 ≤ n; omega), ⟨rfl, rfl, by decide⟩, ((hw.dropAt 3).dropAt 2).dropAt 1⟩
      have h7 : h.N = 0 := by have := of_decide_eq_false h7; omega
      have hL0 : h.L = [] := by rw [h7] at hhn; exact List.length_eq_zero_iff.1 hhn.symm
      have hdef := hdf h (List.mem_of_getElem? hh) hL0
      have hg0 : aGet got t.Text = none := by
        cases hg : aGet got t.Text with
        | none => rfl
        | some v =>
          rw [hg, hL0] at hval
          exact absurd hval.symm (hgs _ (aGet_mem hg)).2
      have hndup : memB t.Text (got.map (·.1)) = false := by rw [memB_got, hg0]; rfl
      rw [one_tail hN1 hmem hndup] at hX
      obtain ⟨XN, hXN⟩ : ∃ XN, XN = numX toks (endP s) (limB t.Text) (decide (t.Text = coresB)) (toks.length + 1) [] (k0 + 1) := ⟨_, rfl⟩
      rw [← hXN] at hX
      rw [hdef] at hrow
      have hrow : (osR os)[j]? = some [.slice none 0 0] := hrow
      have hset0 : (osR os).set j [.slice none 0 0] = osR os := set_same hrow
      clear hRow hhok hhn hval hL0 hdef hmem hndup
      repeat (first | refine byW ?_ | (refine byV ?_; intro w hw))
      obtain ⟨wd, hwd⟩ : ∃ wd, wd = (decide (t.Text = baseB) || decide (t.Text = sizeB)) := ⟨_, rfl⟩
      have hlim : limB t.Text = !wd := by rw [hwd]; unfold limB; simp
      have hw : Wd Γ' (rpB bp s a n c ⟨k0 + 1, p0, 0⟩ :: .own (.slice an nn cn) 9 1 (strRow names) :: .own (.slice ao nn nn) 70 1 ((osR os).set j [.slice none 0 0]) :: .own (.slice none 0 0) 61 1 (numRows []) :: .blk b6 (.cells (enc t).toArray 63 ) :: S) w := by rw [hset0]; exact (Wd.addNil hw).ps [4, 1, 4, 4, 4]
      refine W_cutB (fun ρ w => ∃ (τ : RS) (u : Value) (l : List Int), τ.I ≤ n ∧ k0 + 1 ≤ τ.I ∧ l ≠ [] ∧ NumP τ l XN ∧ Has ρ [(0, .pointer (some ⟨bp, 0, none⟩)), (1, .slice an nn cn), (5, .slice ao nn nn) , (6, .pointer (some ⟨b6, 0, none⟩)), (7, .int .i64 j)] ∧ Wd Γ' (rpB bp s a n c τ :: .own (.slice an nn cn) 9 1 (strRow names) :: .own (.slice ao nn nn) 70 1 ((osR os).set j [u]) :: .own (u) 61 1 (numRows l) :: .blk b6 (.cells (enc t).toArray 63 ) :: S) w) ?_ ?_
      · refine W_loop (fun μ ρ w => ∃ (kc : Nat) (pp : PosT) (u : Value) (l : List Int), k0 < kc ∧ kc ≤ n ∧ n < μ + kc ∧ l.length ≤ kc ∧ XN = numX toks (endP s) (limB t.Text) (decide (t.Text = coresB)) μ l kc ∧ Has ρ [(0, .pointer (some ⟨bp, 0, none⟩)), (1, .slice an nn cn), (5, .slice ao nn nn) , (6, .pointer (some ⟨b6, 0, none⟩)), (7, .int .i64 j), (8, .bool wd)] ∧ Wd Γ' (rpB bp s a n c ⟨kc, pp, 0⟩ :: .own (.slice an nn cn) 9 1 (strRow names) :: .own (.slice ao nn nn) 70 1 ((osR os).set j [u]) :: .own (u) 61 1 (numRows l) :: .blk b6 (.cells (enc t).toArray 63 ) :: S) w) (toks.length + 1) ⟨k0 + 1, p0, .slice none 0 0, [], by omega, by omega, by omega, by simp, hXN, ⟨rfl, rfl, rfl, rfl, rfl, by rw [hwd]; rfl, trivial⟩, hw⟩ ?_
        clear hw hXN
        rintro μ ρ w ⟨kc, pp, u, l, hkc0, hkc, hμk, hlk, hXN, hρ, hw⟩
        rw [hρ.eq]
        clear hρ
        obtain ⟨f2, rfl⟩ : ∃ f2, μ = f2 + 1 := ⟨μ - 1, by omega⟩
        repeat (first | refine byW ?_ | (refine byV ?_; intro w hw) | (apply L_plain; apply L_go; refine lPs ?_; intro w hw) | (apply L_guarded; apply L_go; refine lPsG ?_; intro w hw))
        refine W_cond rfl (fun h => ?_) (fun h => ?_)
        rotate_left
        · exact absurd h (show ¬ decide ((0 : Int) = 0) = false by decide)
        clear h
        repeat (first | refine byW ?_ | (refine byV ?_; intro w hw))
        refine lCall ?_
        refine (Any_any 2 hkc hw).mono ?_
        clear hw
        rintro r w ⟨rfl, hw⟩
        refine ⟨_, rfl, ?_⟩
        refine lY (v := .int .u64 (anyS toks (endP s) ⟨kc, pp, 0⟩ 2).1.Value) ?_ (hy := y_fldS Tryz.underlying63 rfl rfl (TS.h (P := Tryz.prog) (T := 61)) rfl)
        repeat (first | refine byW ?_ | (refine byV ?_; intro w hw))
        refine W_cutT (fun ρ w => ∃ (τ : RS) (v : Int), τ.I ≤ n ∧ kc ≤ τ.I ∧ OneP τ v (numberP toks (endP s) (limB t.Text) kc) ∧ Has ρ [(0, .pointer (some ⟨bp, 0, none⟩)), (1, .slice an nn cn), (5, .slice ao nn nn) , (6, .pointer (some ⟨b6, 0, none⟩)), (7, .int .i64 j), (8, .bool wd), (9, .int .u64 v)] ∧ Wd Γ' (rpB bp s a n c τ :: .own (.slice an nn cn) 9 1 (strRow names) :: .own (.slice ao nn nn) 70 1 ((osR os).set j [u]) :: .own (u) 61 1 (numRows l) :: .blk b6 (.cells (enc t).toArray 63 ) :: S) w) ?_ ?_
        · cases hk2 : kindS toks kc 2 with
          | false =>
            have hA : anyS toks (endP s) ⟨kc, pp, 0⟩ 2 = (default, ⟨kc, posOf toks kc (endP s), 50⟩) := by unfold anyS failS; rw [hk2]; rfl
            rw [hA] at hw ⊢
            rw [numberP_bad hk2]
            refine W_cond_false (by show Value.bool (!wd && decide ((2147483647 : Int) < 0)) = _; rw [Bool.and_comm]; rfl) ?_
            repeat (first | refine byW ?_ | (refine byV ?_; intro w hw))
            exact ⟨_, _, hkc, Nat.le_refl _, ⟨rfl, rfl, by decide⟩, ⟨rfl, rfl, rfl, rfl, rfl, rfl, rfl, trivial⟩, hw⟩
          | true =>
            obtain ⟨t2, htk2, hN2⟩ := nextP_ok (e := endP s) hk2
            have hlt2 := (List.getElem?_eq_some_iff.1 htk2).1
            have hA : anyS toks (endP s) ⟨kc, pp, 0⟩ 2 = (t2, ⟨kc + 1, pp, 0⟩) := by unfold anyS; rw [hk2, htk2]; rfl
            rw [hA] at hw ⊢
            rw [numberP_of hN2, hlim]
            refine W_cond rfl (fun h => ?_) (fun h => ?_)
            · have h : (!wd && decide (2147483647 < t2.Value)) = true := h
              rw [if_pos (by simpa using h)]
              have hw : Wd Γ' (.blk bp (.cells #[.string s, .slice a n c, .int .i64 ((kc + 1 : Nat) : Int), .int .i64 pp.Line, .int .i64 pp.Col, .int .i64 0] 60) :: .own (.slice an nn cn) 9 1 (strRow names) :: .own (.slice ao nn nn) 70 1 ((osR os).set j [u]) :: .own (u) 61 1 (numRows l) :: .blk b6 (.cells (enc t).toArray 63 ) :: S) w := hw
              repeat (first | refine byW ?_ | (refine byV ?_; intro w hw))
              refine lCall ?_
              refine (Fail_any (σ := ⟨kc + 1, pp, 0⟩) (((kc + 1 : Nat) : Int) - 1) kc 6 (fun _ => by omega) hw).mono ?_
              clear hw
              rintro r w ⟨rfl, hw⟩
              refine ⟨_, rfl, ?_⟩
              have hF : failS toks (endP s) ⟨kc + 1, pp, 0⟩ kc 6 = ⟨kc + 1, posOf toks kc (endP s), 6⟩ := rfl
              rw [hF] at hw
              repeat (first | refine byW ?_ | (refine byV ?_; intro w hw))
              exact ⟨_, _, (by show kc + 1 ≤ n; omega), (by show kc ≤ kc + 1; omega), ⟨rfl, rfl, by decide⟩, ⟨rfl, rfl, rfl, rfl, rfl, rfl, rfl, trivial⟩, hw⟩
            · have h : (!wd && decide (2147483647 < t2.Value)) = false := h
              rw [if_neg (fun q => by
                have : (!wd && decide (2147483647 < t2.Value)) = true := by rw [q.1, decide_eq_true q.2]; rfl
                rw [this] at h; cases h)]
              repeat (first | refine byW ?_ | (refine byV ?_; intro w hw))
              exact ⟨_, _, (by show kc + 1 ≤ n; omega), (by show kc ≤ kc + 1; omega), ⟨rfl, rfl, rfl⟩, ⟨rfl, rfl, rfl, rfl, rfl, rfl, rfl, trivial⟩, hw⟩
        clear hw
        rintro ρ w ⟨τ, v, hτI, hτk, hone, hρ, hw⟩
        rw [hρ.eq]
        clear hρ
        obtain ⟨qa, qn, qc, rfl, hqn, -, -⟩ := hw.own_shape (i := 3) rfl
        simp only [numRows, List.length_map] at hqn
        have hrow2 : ((osR os).set j [.slice qa qn qc])[j]? = some [.slice qa qn qc] := by
          rw [List.getElem?_set_self (by rw [osR_len]; omega)]
        have hjn : j < nn := by omega
        repeat (first | refine byW ?_ | (refine byV ?_; intro w hw))
        refine lY (v := .slice qa qn qc) ?_ (hy := y_loadE1 (k := j) rfl (Wd.own_rd (i := 2) hw rfl) hrow2)
        repeat (first | refine byW ?_ | (refine byV ?_; intro w hw))
        refine lBuildSlice [[.int .u64 v]] ?_
        intro aN w hw
        refine lApp (i := 4) (rows2 := [[.int .u64 v]]) ?_ (Wd.own_rd (i := 0) hw rfl)
        intro v' w hw
        obtain ⟨ra, rn, rc, rfl, -, -, -⟩ := hw.own_shape (i := 4) rfl
        repeat (first | refine byW ?_ | (refine byV ?_; intro w hw))
        refine lStoreE (i := 3) (k := j) ?_
        intro w hw
        have hw := hw.drop
        have hw : Wd Γ' (rpB bp s a n c τ :: .own (.slice an nn cn) 9 1 (strRow names) :: .own (.slice ao nn nn) 70 1 ((osR os).set j [.slice ra rn rc]) :: .own (.slice ra rn rc) 61 1 (numRows (l ++ [v])) :: .blk b6 (.cells (enc t).toArray 63 ) :: S) w := by
          have e1 : numRows (l ++ [v]) = numRows l ++ [[.int .u64 v]] := by unfold numRows; rw [List.map_append]; rfl
          rw [e1, ← List.set_set (a := [Value.slice qa qn qc])]; exact hw
        have hne : l ++ [v] ≠ [] := by simp
        repeat (first | refine byW ?_ | (refine byV ?_; intro w hw))
        by_cases hcr : t.Text = coresB
        · have hct : (!decide (t.Text ≠ coresB)) = true := by simp [hcr]
          refine lGT ?_ (hct := hct)
          refine lCall (vs := [.pointer (some ⟨bp, 0, none⟩), .int .i64 4, .string commaB]) ?_ (ha := by
            have hc := hct
            exact byEVG)
          refine (Take_any 4 commaB hw).mono ?_
          clear hw
          rintro r w ⟨rfl, hw⟩
          refine ⟨_, rfl, ?_⟩
          obtain ⟨b, hb⟩ : ∃ b, b = (decide (τ.er = 0) && isS toks τ.I 4 commaB) := ⟨_, rfl⟩
          have hTk : takeS toks τ 4 commaB = if b = true then ⟨τ.I + 1, τ.p, τ.er⟩ else τ := by rw [hb]; rfl
          rw [← hb]
          refine lGT ?_ (hct := hct)
          repeat (first | refine byW ?_ | (refine byV ?_; intro w hw))
          refine lY (v := .bool (!b)) ?_ (hy := y_pickF (congrArg Value.bool (by simp [hcr] : decide (t.Text ≠ coresB) = false)) rfl)
          repeat (first | refine byW ?_ | (refine byV ?_; intro w hw))
          refine W_cond rfl (fun h8 => ?_) (fun h8 => ?_)
          · have h8 : b = false := by simpa using h8
            rw [h8] at hb hTk
            rw [hTk, if_neg (by decide)] at hw
            repeat (first | refine byW ?_ | (refine byV ?_; intro w hw))
            refine ⟨τ, _, _, hτI, by omega, hne, ?_, ⟨rfl, rfl, rfl, rfl, rfl, trivial⟩, hw⟩
            rw [hXN]
            exact num_stop hone (fun h0 => by rw [decide_eq_true h0, Bool.true_and] at hb; rw [← hb, Bool.and_false])
          · have h8 : b = true := by simpa using h8
            rw [h8] at hb hTk
            rw [hTk, if_pos rfl] at hw
            have hb1 := andL hb.symm
            have hb2 := andR hb.symm
            have hlt3 := isS_lt hb2
            obtain ⟨I1, p1, e1⟩ := τ
            have hb1 : e1 = 0 := of_decide_eq_true hb1
            subst hb1
            have hτk : kc ≤ I1 := hτk
            have hlt3 : I1 < toks.length := hlt3
            repeat (first | refine byW ?_ | (refine byV ?_; intro w hw))
            refine ⟨f2, by omega, I1 + 1, p1, _, l ++ [v], by omega, by omega, by omega, by simp; omega, ?_, ⟨rfl, rfl, rfl, rfl, rfl, rfl, trivial⟩, hw⟩
            rw [hXN]
            exact num_go (τ := ⟨I1, p1, 0⟩) hone rfl (by rw [decide_eq_true hcr, Bool.true_and]; exact hb2)
        · have hct : (!decide (t.Text ≠ coresB)) = false := by simp [hcr]
          refine lGF ?_ (hct := hct)
          refine lGF ?_ (hct := hct)
          refine lY (v := .bool true) ?_ (hy := y_pickT (congrArg Value.bool (by simp [hcr] : decide (t.Text ≠ coresB) = true)) rfl)
          repeat (first | refine byW ?_ | (refine byV ?_; intro w hw))
          refine W_cond_true rfl ?_
          repeat (first | refine byW ?_ | (refine byV ?_; intro w hw))
          refine ⟨τ, _, _, hτI, by omega, hne, ?_, ⟨rfl, rfl, rfl, rfl, rfl, trivial⟩, hw⟩
          rw [hXN]
          exact num_stop hone (fun _ => by rw [decide_eq_false hcr, Bool.false_and])
      clear hw hXN
      rintro ρ w ⟨τ, u, l, hτI2, hτk, hne, hnum, hρ, hw⟩
      rw [hρ.eq]
      clear hρ
      obtain ⟨qa, qn, qc, rfl, hqn, -, -⟩ := hw.own_shape (i := 3) rfl
      repeat (first | refine byW ?_ | (refine byV ?_; intro w hw))
      refine lCall ?_
      refine (Need_any 4 semiB hw).mono ?_
      clear hw
      rintro r w ⟨rfl, hw⟩
      refine ⟨_, rfl, ?_⟩
      have hI3 := needS_I (toks := toks) (σ := τ) (e := endP s) (kind := 4) (text := semiB) (by omega)
      obtain ⟨Γ2, hle2, hr2, hw⟩ := Wd.freeze (hw.ps [3])
      obtain ⟨h', hh'⟩ : ∃ h' : NumH, h' = ⟨qa, qn, qc, l⟩ := ⟨_, rfl⟩
      have hok' : NOk Γ2 h' := by rw [hh']; exact hr2
      have hw := hw.dropAt 3
      have hw : Wd Γ2 (rpB bp s a n c (needS toks (endP s) τ 4 semiB) :: .own (.slice an nn cn) 9 1 (strRow names) :: .own (.slice ao nn nn) 70 1 (osR (os.set j h')) :: S) w := by rw [← osR_set]; rw [hh']; exact hw
      repeat (first | refine byW ?_ | (refine byV ?_; intro w hw))
      refine ⟨f, by omega, needS toks (endP s) τ 4 semiB, os.set j h', Γ2, hle.trans hle2, by omega, by simp; omega, fun x hx => ?_, fun x hx hL => ?_, ?_, ⟨rfl, rfl, rfl, trivial⟩, hw⟩
      · rcases List.mem_or_eq_of_mem_set hx with hx | rfl
        · exact RepS.mono (hok x hx) hle2
        · exact hok'
      · rcases List.mem_or_eq_of_mem_set hx with hx | rfl
        · exact hdf x hx hL
        · rw [hh'] at hL; exact absurd hL hne
      · cases XN with
        | error q =>
          obtain ⟨p, er⟩ := q
          obtain ⟨h1, h2, h3⟩ := hnum
          have h4 : τ.er ≠ 0 := by rw [h2]; exact h3
          rw [needS_er h4, if_neg h4, hX, h1, h2]; rfl
        | ok q =>
          obtain ⟨l', k2⟩ := q
          obtain ⟨h1, h2, h3⟩ := hnum
          have hst := needS_st (toks := toks) (e := endP s) (kind := 4) (text := semiB) h1
          rw [h2] at hst
          have hX : X0 = match expectP toks (endP s) 4 semiB k2 with | .error q => .error q | .ok (_, k3) => attrN toks (endP s) names f k3 (got ++ [(t.Text, l')]) := hX
          cases hE : expectP toks (endP s) 4 semiB k2 with
          | error q =>
            obtain ⟨p, er⟩ := q
            rw [hE] at hst hX
            obtain ⟨h5, h6, h7⟩ := hst
            rw [if_neg (by rw [h6]; exact h7), hX, h5, h6]
          | ok q =>
            obtain ⟨u0, k3⟩ := q
            obtain ⟨hk3, -⟩ := expectP_at hE
            rw [hE] at hst hX
            obtain ⟨h5, h6⟩ := hst
            rw [if_pos h5, h6]
            refine ⟨got ++ [(t.Text, l')], by omega, hX, ?_, ?_, ?_⟩
            · have := os_snoc (h := h') hnd hj hg0 hos
              rw [this, hh', h3]
            · rw [List.map_append]
              exact nodup_app1 hgn (fun hm => by
                obtain ⟨v, hv⟩ := aGet_some_iff.2 hm
                rw [hg0] at hv; cases hv)
            · intro p hp
              rcases List.mem_append.1 hp with hp | hp
              · exact hgs p hp
              · cases List.mem_singleton.1 hp
                exact ⟨List.mem_of_getElem? hj, by rw [← h3]; exact hne⟩
  clear hw hst hI0
  rintro ρ w ⟨τ, os, Γ', hle, hτI, hol, hok, hmid, hρ, hw⟩
  rw [hρ.eq]
  clear hρ
  haveI := ht.mono hle
  repeat (first | refine byW ?_ | (refine byV ?_; intro w hw))
  refine W_cutB (fun ρ w => ∃ τ' : RS, τ'.I = τ.I ∧ (τ'.er = 0 → τ' = τ ∧ ∀ (i : Nat) x, os[i]? = some x → x.L ≠ []) ∧ (τ'.er ≠ 0 → capX toks (endP s) names X0 = .error (τ'.p, τ'.er)) ∧ Has ρ [(0, .pointer (some ⟨bp, 0, none⟩)), (1, .slice an nn cn), (5, .slice ao nn nn) ] ∧ Wd Γ' (rpB bp s a n c τ' :: .own (.slice an nn cn) 9 1 (strRow names) :: .own (.slice ao nn nn) 70 1 (osR os) :: S) w) ?_ ?_
  · refine W_loop (fun μ ρ w => ∃ (kk : Nat) (τ' : RS), μ + kk = nn ∧ τ'.I = τ.I ∧ (τ'.er = 0 → τ' = τ ∧ ∀ (i : Nat) x, i < kk → os[i]? = some x → x.L ≠ []) ∧ (τ'.er ≠ 0 → capX toks (endP s) names X0 = .error (τ'.p, τ'.er)) ∧ Has ρ [(0, .pointer (some ⟨bp, 0, none⟩)), (1, .slice an nn cn), (5, .slice ao nn nn) , (10, .int .i64 kk)] ∧ Wd Γ' (rpB bp s a n c τ' :: .own (.slice an nn cn) 9 1 (strRow names) :: .own (.slice ao nn nn) 70 1 (osR os) :: S) w) nn ?_ ?_
    · refine ⟨0, τ, by omega, rfl, fun _ => ⟨rfl, fun i x hi => absurd hi (Nat.not_lt_zero i)⟩, fun h0 => ?_, ⟨rfl, rfl, rfl, rfl, trivial⟩, hw⟩
      cases X0 with
      | error q =>
        obtain ⟨p, er⟩ := q
        obtain ⟨h1, h2, h3⟩ := hmid
        rw [h1, h2]; rfl
      | ok q => exact absurd hmid.1 h0
    clear hw
    rintro μ ρ w ⟨kk, τ', hkk, hτ'I, hz, hnz, hρ, hw⟩
    rw [hρ.eq]
    clear hρ
    repeat (first | refine byW ?_ | (refine byV ?_; intro w hw) | (apply L_plain; apply L_go; refine lPs ?_; intro w hw) | (apply L_guarded; apply L_go; refine lPsG ?_; intro w hw))
    refine W_cond rfl (fun h => ?_) (fun h => ?_)
    rotate_left
    · repeat (first | refine byW ?_ | (refine byV ?_; intro w hw))
      refine ⟨τ', hτ'I, fun h0 => ⟨(hz h0).1, fun i x hx => ?_⟩, hnz, ⟨rfl, rfl, rfl, trivial⟩, hw⟩
      refine (hz h0).2 i x ?_ hx
      have hil := (List.getElem?_eq_some_iff.1 hx).1
      rcases Nat.lt_or_ge kk nn with q | q
      · have q2 : (decide ((kk : Int) < nn) && decide (τ'.er = 0)) = true := by rw [decide_eq_true h0, Bool.and_true, decide_eq_true_eq]; omega
        exact absurd (q2.symm.trans h) (by decide)
      · omega
    have hq : (decide ((kk : Int) < nn) && decide (τ'.er = 0)) = true := h
    have hkl : kk < nn := by have := of_decide_eq_true (andL hq); omega
    have h0 : τ'.er = 0 := of_decide_eq_true (andR hq)
    obtain ⟨heq, hall⟩ := hz h0
    subst heq
    obtain ⟨x, hx⟩ := get_lt (l := os) (k := kk) (by omega)
    have hxok := hok x (List.mem_of_getElem? hx)
    obtain ⟨_, _, _, eN, hxn, -, -⟩ := RepS.shape hxok
    cases eN
    simp only [numRows, List.length_map] at hxn
    have hrow : (osR os)[kk]? = some [.slice x.A x.N x.C] := osR_get hx
    clear h hq
    repeat (first | refine byW ?_ | (refine byV ?_; intro w hw))
    refine W_cond rfl (fun h => ?_) (fun h => ?_)
    · have h : x.N = 0 := by have := of_decide_eq_true h; omega
      have hL : x.L = [] := by rw [h] at hxn; exact List.length_eq_zero_iff.1 hxn.symm
      repeat (first | refine byW ?_ | (refine byV ?_; intro w hw))
      refine lCall ?_
      refine (Fail_any (τ'.I : Int) τ'.I 50 (fun _ => rfl) hw).mono ?_
      clear hw
      rintro r w ⟨rfl, hw⟩
      refine ⟨_, rfl, ?_⟩
      have hF : failS toks (endP s) τ' τ'.I 50 = ⟨τ'.I, posOf toks τ'.I (endP s), 50⟩ := by unfold failS; rw [if_pos h0]
      rw [hF] at hw
      repeat (first | refine byW ?_ | (refine byV ?_; intro w hw))
      refine ⟨μ - 1, by omega, kk + 1, ⟨τ'.I, posOf toks τ'.I (endP s), 50⟩, by omega, rfl, fun q => absurd q (show ¬ (50 : Int) = 0 by decide), fun _ => ?_, ⟨rfl, rfl, rfl, rfl, trivial⟩, hw⟩
      cases X0 with
      | error q =>
        obtain ⟨p, er⟩ := q
        exact absurd (hmid.2.1.symm.trans h0) hmid.2.2
      | ok q =>
        obtain ⟨got, k2⟩ := q
        obtain ⟨-, h2, -, h4, h5, h6⟩ := hmid
        have := got_miss h5 h6 h4 hx hL
        show (if got.length < names.length then _ else _) = _
        rw [if_pos this, h2]
    · have h : x.N ≠ 0 := by have := of_decide_eq_false h; omega
      repeat (first | refine byW ?_ | (refine byV ?_; intro w hw))
      refine ⟨μ - 1, by omega, kk + 1, τ', by omega, rfl, fun _ => ⟨rfl, fun i y hi hy => ?_⟩, hnz, ⟨rfl, rfl, rfl, rfl, trivial⟩, hw⟩
      rcases Nat.lt_succ_iff_lt_or_eq.1 hi with q | q
      · exact hall i y q hy
      · subst q
        rw [hx] at hy; cases hy
        intro e; rw [e] at hxn; exact h hxn
  clear hw
  rintro ρ w ⟨τ', hτ'I, hz, hnz, hρ, hw⟩
  rw [hρ.eq]
  clear hρ
  repeat (first | refine byW ?_ | (refine byV ?_; intro w hw))
  refine lCall ?_
  refine (Need_any 4 closeB hw).mono ?_
  clear hw
  rintro r w ⟨rfl, hw⟩
  refine ⟨_, rfl, ?_⟩
  obtain ⟨Γ2, hle2, hr2, hw⟩ := Wd.freeze (hw.ps [2])
  have hw := hw.dropAt 1
  have hI4 := needS_I (toks := toks) (σ := τ') (e := endP s) (kind := 4) (text := closeB) (by omega)
  repeat (first | refine byW ?_ | (refine byV ?_; intro w hw))
  refine ⟨_, rfl, Γ2, _, _, hle.trans hle2, rfl, by omega, ?_, hw⟩
  by_cases h0 : τ'.er = 0
  · obtain ⟨heq, hall⟩ := hz h0
    subst heq
    cases X0 with
    | error q =>
      obtain ⟨p, er⟩ := q
      exact absurd (hmid.2.1.symm.trans h0) hmid.2.2
    | ok q =>
      obtain ⟨got, k2⟩ := q
      obtain ⟨h1, h2, h3, h4, h5, h6⟩ := hmid
      have hna := got_all hnd h4 hall
      have : capX toks (endP s) names (.ok (got, k2)) = .ok (got, k2 + 1) := by
        show (if got.length < names.length then _ else _) = _
        rw [if_neg hna]
      rw [this]
      have hN : needS toks (endP s) τ' 4 closeB = ⟨τ'.I + 1, τ'.p, τ'.er⟩ := by
        unfold needS
        rw [if_pos (by rw [decide_eq_true h0, Bool.true_and, h2]; exact h3)]
      rw [hN]
      exact ⟨h0, by show τ'.I + 1 = _; rw [h2], os, hr2, fun h hh => RepS.mono (hok h hh) hle2, h4⟩
  · rw [hnz h0, needS_er h0]
    exact ⟨rfl, rfl, h0⟩
end Go.Proofs.YtnkekcippfdbgaaGreat
end
/- The reference's parser: Open; readings as the program's. -/
section
open Go Mk
namespace Go.Proofs.YtnkekcippfdbgaaGreat
set_option maxHeartbeats 16000000
attribute [local irreducible] Calls posAt endP scanS

theorem RTok.of {Γ : Gho} {a : Option Addr} {n c : Nat} {toks : List Tok} (h : RepS Γ (.slice a n c) 5 (toks.map enc)) (hb : n ≤ 1000000) : RTok Γ a n c toks := ⟨h, hb⟩
theorem Open_any {Γ : Gho} {S : List Res} {w : World} (s : ByteArray) (hs : s.size ≤ 4611686018427387904) (hw : Wd Γ S w) :
    Calls Tryz.prog 18 #[.string s] w fun e w' => ∃ (Γ' : Gho) (bp : Nat) (a : Option Addr) (n c : Nat), Γ.le Γ' ∧ e = .returned (.pointer (some ⟨bp, 0, none⟩)) ∧ RTok Γ' a n c (scanS s).1 ∧ Wd Γ' (rpB bp s a n c ⟨0, (scanS s).2.1, (scanS s).2.2⟩ :: S) w' := by
  refine calls_of_W Tryz.func18 rfl rfl ?_
  repeat (first | refine byW ?_ | (refine byV ?_; intro w hw))
  refine lCall ?_
  refine (RScan_any Γ S w s hs hw).mono ?_
  clear hw
  rintro r w ⟨v, rfl, hw⟩
  refine ⟨_, rfl, ?_⟩
  have hl := scanS_len (s := s)
  generalize scanS s = q at *
  obtain ⟨toks, p, er⟩ := q
  dsimp only at hl hw ⊢
  obtain ⟨a, n, c, rfl, hn, hnc, hc⟩ := hw.own_shape (i := 0) rfl
  simp only [List.length_map] at hn
  obtain ⟨Γ', hle, hr, hw⟩ := Wd.freeze hw
  repeat (first | refine byW ?_ | (refine byV ?_; intro w hw))
  refine lAlloc ?_
  intro b4 w hw
  repeat (first | refine byW ?_ | (refine byV ?_; intro w hw))
  refine lStore ?_
  intro w hw
  have hw : Wd Γ' (.blk b4 (.cells #[.int .i64 p.Line, .int .i64 p.Col] 31) :: S) w := hw
  repeat (first | refine byW ?_ | (refine byV ?_; intro w hw))
  refine lBox ?_
  intro bp w hw
  have hw : Wd Γ' (rpB bp s a n c ⟨0, p, er⟩ :: .blk b4 (.cells #[.int .i64 p.Line, .int .i64 p.Col] 31) :: S) w := hw
  repeat (first | refine byW ?_ | (refine byV ?_; intro w hw))
  exact ⟨_, rfl, Γ', bp, a, n, c, hle, rfl, ⟨hr, by omega⟩, hw.dropAt 1⟩
theorem anyS_er {toks : List Tok} {e : PosT} {τ : RS} {kind : Int} (h : τ.er ≠ 0) : anyS toks e τ kind = (default, τ) := by
  unfold anyS failS
  rw [if_neg (by simp [h]), if_neg h]
theorem anyS_ok {toks : List Tok} {e : PosT} {τ : RS} {kind : Int} (h : τ.er = 0) : (∃ t, nextP toks e kind τ.I = .ok (t, τ.I) ∧ toks[τ.I]? = some t ∧ anyS toks e τ kind = (t, ⟨τ.I + 1, τ.p, 0⟩)) ∨ (nextP toks e kind τ.I = .error (posOf toks τ.I e, 50) ∧ anyS toks e τ kind = (default, ⟨τ.I, posOf toks τ.I e, 50⟩)) := by
  cases hk : kindS toks τ.I kind with
  | true =>
    obtain ⟨t, h1, h2⟩ := nextP_ok (e := e) hk
    refine .inl ⟨t, h2, h1, ?_⟩
    unfold anyS
    rw [hk, decide_eq_true h, h1, h]; rfl
  | false =>
    refine .inr ⟨nextP_bad hk, ?_⟩
    unfold anyS failS
    rw [hk, decide_eq_true h, if_neg (by decide), if_pos h]
/-- The reading of an int, as the program's. -/
theorem intR_st {toks : List Tok} {e : PosT} {τ : RS} (h : τ.er = 0) : match numberP toks e true τ.I with
    | .ok (v, k) => intR toks e τ = (IntKind.i64.wrap v, ⟨k, τ.p, 0⟩)
    | .error (p, er) => (intR toks e τ).2.p = p ∧ (intR toks e τ).2.er = er ∧ er ≠ 0 ∧ (intR toks e τ).2.I ≤ τ.I + 1 := by
  unfold intR
  rcases anyS_ok (toks := toks) (e := e) (kind := 2) h with ⟨t, h1, h2, h3⟩ | ⟨h1, h3⟩
  · rw [h3, numberP_of h1]
    dsimp only
    by_cases hv : 2147483647 < t.Value
    · rw [if_pos ⟨rfl, hv⟩, if_pos hv]
      exact ⟨rfl, rfl, by decide, Nat.le_refl _⟩
    · rw [if_neg (fun q => hv q.2), if_neg hv]
  · rw [h3]
    unfold numberP
    rw [h1]
    dsimp only
    rw [if_neg (by decide)]
    exact ⟨rfl, rfl, by decide, Nat.le_succ _⟩
theorem nameR_st {toks : List Tok} {e : PosT} {τ : RS} {kind : Int} (h : τ.er = 0) : match nameP toks e kind τ.I with
    | .ok (v, k) => nameR toks e τ kind = (v, ⟨k, τ.p, 0⟩)
    | .error (p, er) => (nameR toks e τ kind).2.p = p ∧ (nameR toks e τ kind).2.er = er ∧ er ≠ 0 ∧ (nameR toks e τ kind).2.I ≤ τ.I + 1 := by
  unfold nameR
  rcases anyS_ok (toks := toks) (e := e) (kind := kind) h with ⟨t, h1, h2, h3⟩ | ⟨h1, h3⟩
  · rw [h3]
    unfold nameP
    rw [h1]
    dsimp only
    by_cases hv : 24 < t.Text.size
    · rw [if_pos hv, if_pos hv]
      exact ⟨rfl, rfl, by decide, Nat.le_refl _⟩
    · rw [if_neg hv, if_neg hv]
  · rw [h3]
    unfold nameP
    rw [h1]
    dsimp only
    rw [if_neg (by decide)]
    exact ⟨rfl, rfl, by decide, Nat.le_succ _⟩
theorem intR_er {toks : List Tok} {e : PosT} {τ : RS} (h : τ.er ≠ 0) : (intR toks e τ).2 = τ := by
  unfold intR
  rw [anyS_er h]
  dsimp only
  rw [if_neg (by decide)]
theorem nameR_er {toks : List Tok} {e : PosT} {τ : RS} {kind : Int} (h : τ.er ≠ 0) : (nameR toks e τ kind).2 = τ := by
  unfold nameR
  rw [anyS_er h]
  dsimp only
  rw [if_neg (by decide)]
theorem intR_I {toks : List Tok} {e : PosT} {τ : RS} (h : τ.I ≤ toks.length) : (intR toks e τ).2.I ≤ toks.length := by
  have := anyS_I (toks := toks) (e := e) (kind := 2) (σ := τ) h
  unfold intR
  split
  · rw [failS_I]; exact this
  · exact this
theorem nameR_I {toks : List Tok} {e : PosT} {τ : RS} {kind : Int} (h : τ.I ≤ toks.length) : (nameR toks e τ kind).2.I ≤ toks.length := by
  have := anyS_I (toks := toks) (e := e) (kind := kind) (σ := τ) h
  unfold nameR
  dsimp only
  split
  · rw [failS_I]; exact this
  · exact this
end Go.Proofs.YtnkekcippfdbgaaGreat
end
