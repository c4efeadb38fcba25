/- Texts of this proof, one behind another. -/
import Derived.Test.YtmjkacgmepbljaaGreatDoorM4
import Derived.Test.YtmjkacgmepbljaaGreatDoorM3
set_option linter.unusedVariables false
set_option linter.unusedSimpArgs false
/- A call in a drawn region that changes one cell, its answer held by an open slot. -/
section
open Go
namespace Mk
attribute [local irreducible] Calls
section
variable {P : Program} {n : Nat} {ops : List Oper} {Γ : Gho} {K : List Res} {wr tc stab : List (List Nat)} {Q : Fr → World → Prop} {i : Nat} {rest : List Oper} {ρ : Fr} {M : Nat → Fr → List Res}
variable {d : Option Tmp} {ty : TypeId} {pos : String} {es : Array Edge} {f : Nat} {args : List Operand} {tys : Array TypeId}
theorem mCallG {c : Nat} {F : Fr → List Res} (F' : Fr → List Res) (vs : Fr → List Value) [FnOk P f]
    (hs : ∀ g w Y, Wd Γ (F (ovr (stab.getD c []) g noFr) ++ (K ++ Y)) w → Calls P f (vs (ovr (stab.getD c []) g noFr)).toArray w fun e w' => ∃ u, e = .returned u ∧ Wd Γ (F' (ovr (stab.getD c []) (putO g d u) noFr) ++ (K ++ Y)) w')
    (h : MSw (mV P n ops Γ K wr tc stab) Q (i + 1) rest ⟨putO ρ d undef, setC M c F'⟩) (hM : M c = F := by first | exact setC_self | exact ml1 | exact ml2 | exact ((setC_other (by decide)).trans setC_self) | exact rfl) (hw0 : wr.getD i [] = [c] := by exact rfl) (ht : tc.getD i [] = [c] := by exact rfl) (hfr : freeD stab d = true := by exact rfl) (ha : ∀ g, EvL (ovr stab.flatten g ρ) args (vs (ovr (stab.getD c []) g noFr)) := by intro g; exact byEV) :
    MSw (mV P n ops Γ K wr tc stab) Q i (⟨d, .call { callee := .value (.func f), args := args.toArray, argTypes := tys }, ty, pos, es, none⟩ :: rest) ⟨ρ, M⟩ :=
  mS (v := undef) F' (fun g w Y hw => s_call (ha g).eqA ((hs g w Y hw).mono fun e w' ⟨u, h1, h2⟩ => ⟨u, h1, fun hh => (by rw [hfr] at hh; cases hh), h2⟩)) h hM hw0 ht rfl
/-- A truth that is known. -/
theorem mT {b : Bool} {o : Oper} (hb : b = true) (h : MSw (mV P n ops Γ K wr tc stab) Q (i + 1) rest ⟨putO ρ o.dst (.bool true), M⟩) (hw0 : wr.getD i [] = [] := by exact rfl) (hg : o.guard = none := by exact rfl) (ho : outOf tc stab i o.dst = true := by exact rfl)
    (hy : ∀ Y w g, Wd Γ (K ++ (cellsAt tc stab i M g ++ Y)) w → Yields P o (ovr stab.flatten g ρ) w (.bool b) := by (intro Y w g hw; exact byPU)) : MSw (mV P n ops Γ K wr tc stab) Q i (o :: rest) ⟨ρ, M⟩ := by
  subst hb
  exact mC (fun Y w g hw => (hy Y w g hw).step ⟨rfl, hw⟩) hw0 hg ho h
end
end Mk
end
/- Sets of facts whose arguments are owned; lists of facts that stand for ever; a fact is put in. -/
section
open Go Mk
namespace Go.Proofs.YtmjkacgmepbljaaGreatDoor
set_option maxHeartbeats 16000000
attribute [local irreducible] Calls cFact

abbrev ownA (g : FactH) : Res := .own g.hdr 30 3 (g.Args.map enc)
theorem freezeAll {Γ : Gho} {S : List Res} {w : World} : ∀ (gs : List FactH), Wd Γ (gs.map ownA ++ S) w → ∃ Γ', Γ.le Γ' ∧ (∀ g ∈ gs, FOk Γ' g) ∧ Wd Γ' S w
  | [], h => ⟨Γ, Gho.le.refl _, (fun g hg => by cases hg), h⟩
  | g :: gs, h => by
    obtain ⟨Γ1, l1, r1, h1⟩ := Wd.freeze (h : Wd Γ (ownA g :: (gs.map ownA ++ S)) w)
    obtain ⟨Γ2, l2, r2, h2⟩ := freezeAll gs h1
    refine ⟨Γ2, l1.trans l2, fun x hx => ?_, h2⟩
    rcases List.mem_cons.1 hx with e | e
    · rw [e]; exact RepS.mono r1 l2
    · exact r2 x e
def FsOk0 (gs : List FactH) : Prop := ∀ g ∈ gs, FactOk g.fact
theorem setO_any {Γ : Gho} {S : List Res} {w : World} {v : Value} (fs : List FactH) (hok : FsOk Γ fs) (hl : fs.length ≤ 100000) (hr : RdS Γ S v 2 (fs.map cF)) (hw : Wd Γ S w) :
    Calls Tryz.prog 40 #[v] w fun e w' => ∃ v' gs, e = .returned v' ∧ facts gs = setS (facts fs) ∧ FsOk0 gs ∧ Wd Γ (.own v' 24 2 (gs.map cF) :: (gs.map ownA ++ S)) w' := by
  refine calls_of_W Tryz.func40 rfl rfl ?_
  repeat (first | refine byW ?_ | (refine byV ?_; intro w hw))
  refine lCall (vs := [v, cmpV]) ?_
  refine (sorted_any fs hok hl hr hw).mono ?_
  clear hw
  rintro e w ⟨v1, gs0, rfl, hgs0, hok0, hw⟩
  refine ⟨_, rfl, ?_⟩
  obtain ⟨a, n, c, rfl, hn, hnc, hc⟩ := hw.own_shape (i := 0) rfl
  simp only [List.length_map] at hn
  repeat (first | refine byW ?_ | (refine byV ?_; intro w hw))
  refine W_loop (fun μ ρ w => ∃ (gs hs : List FactH), μ + gs.length = n ∧ gs.length + hs.length = n ∧ Has ρ [(3, .slice a n c), (8, .int .i64 n), (9, .int .i64 (gs.length : Nat))] ∧ facts (gs ++ hs) = setS (facts fs) ∧ FsOk Γ hs ∧ FsOk0 gs ∧ Wd Γ (.own (.slice a n c) 24 2 ((gs ++ hs).map cF) :: (gs.map ownA ++ S)) w) n ⟨[], gs0, by simp, by simp [hn], ⟨rfl, rfl, rfl, trivial⟩, hgs0, hok0, (fun g hg => by cases hg), hw⟩ ?_
  clear hw hgs0 hok0 hn hok hr
  rintro μ ρ w ⟨gs, hs, hk, hn, hρ, hgs, hok, hok1, hw⟩
  rw [hρ.eq]
  repeat (first | refine byW ?_ | (refine byV ?_; intro w hw))
  refine W_cond rfl (fun h => ?_) (fun h => ?_)
  · have hkn : gs.length < n := by have := of_decide_eq_true h; omega
    cases hs with
    | nil => simp at hn; omega
    | cons g hs =>
      have hg : (gs ++ g :: hs)[gs.length]? = some g := by rw [List.getElem?_append_right (Nat.le_refl _)]; simp
      obtain ⟨hf, hal⟩ := hok g (by simp)
      have hal1 : g.Args.length ≤ 100000 := hal.1
      have hll : (gs ++ g :: hs).length = n := by rw [List.length_append]; exact hn
      repeat (first | refine byW ?_ | (refine byV ?_; intro w hw))
      refine lCall (vs := [g.hdr]) ?_
      refine (Clone_vals (S := .own (.slice a n c) 24 2 ((gs ++ g :: hs).map cF) :: (gs.map ownA ++ S)) hf (by omega) hw).mono ?_
      clear hw
      rintro e w ⟨v2, rfl, hw⟩
      refine ⟨_, rfl, ?_⟩
      obtain ⟨a2, n2, c2, rfl, -, -, -⟩ := hw.own_shape (i := 0) rfl
      repeat (first | refine byW ?_ | (refine byV ?_; intro w hw))
      refine lStoreEf (i := 1) (r := [.slice a2 n2 c2]) ?_ (rows_map hg)
      intro w hw
      have hw : Wd Γ (.own (.slice a2 n2 c2) 30 3 (g.Args.map enc) :: .own (.slice a n c) 24 2 (((gs ++ g :: hs).map cF).set gs.length (cF ⟨g.Rel, a2, n2, c2, g.Args⟩)) :: (gs.map ownA ++ S)) w := hw
      have e2 : ((gs ++ g :: hs).map cF).set gs.length (cF ⟨g.Rel, a2, n2, c2, g.Args⟩) = ((gs ++ [(⟨g.Rel, a2, n2, c2, g.Args⟩ : FactH)]) ++ hs).map cF := by
        rw [← List.map_set, List.set_append_right _ _ (Nat.le_refl _), Nat.sub_self, List.set_cons_zero, List.append_assoc]; rfl
      rw [e2] at hw
      repeat (first | refine byW ?_ | (refine byV ?_; intro w hw))
      refine ⟨μ - 1, by omega, gs ++ [⟨g.Rel, a2, n2, c2, g.Args⟩], hs, by simp; omega, by simp at hn ⊢; omega, ⟨rfl, rfl, by simp; rfl, trivial⟩, ?_, fun x hx => hok x (by simp [hx]), fun x hx => ?_, ?_⟩
      · rw [← hgs]
        unfold facts
        simp [FactH.fact]
      · rcases List.mem_append.1 hx with q | q
        · exact hok1 x q
        · rw [List.mem_singleton.1 q]; exact hal
      · have e3 : ((gs ++ [(⟨g.Rel, a2, n2, c2, g.Args⟩ : FactH)]).map ownA ++ S) = gs.map ownA ++ (ownA ⟨g.Rel, a2, n2, c2, g.Args⟩ :: S) := by simp
        rw [e3]
        exact hw.perm ((List.Perm.swap _ _ _).trans (List.Perm.cons _ List.perm_middle.symm))
  · have hkn : ¬ gs.length < n := by have := of_decide_eq_false h; omega
    have hs0 : hs = [] := List.eq_nil_of_length_eq_zero (by omega)
    subst hs0
    rw [List.append_nil] at hw hgs
    repeat (first | refine byW ?_ | (refine byV ?_; intro w hw))
    exact ⟨_, rfl, _, gs, rfl, hgs, hok1, hw⟩

/-- A list of facts that stands for ever. -/
structure RL (Γ : Gho) (v : Value) (fs : List FactH) : Prop where
  rep : RepS Γ v 2 (fs.map cF)
  ok : FsOk Γ fs
theorem RL.mono {Γ Γ' : Gho} {v : Value} {fs : List FactH} (h : RL Γ v fs) (hl : Γ.le Γ') : RL Γ' v fs := ⟨h.rep.mono hl, h.ok.mono hl⟩
theorem RL.nil {Γ : Gho} : RL Γ (.slice none 0 0) [] := ⟨RepS.nil, fun f hf => by cases hf⟩
theorem RL.len {Γ : Gho} {v : Value} {fs : List FactH} (h : RL Γ v fs) : ∃ a c, v = .slice a fs.length c ∧ fs.length ≤ c ∧ c ≤ 9223372036854775807 := by
  obtain ⟨a, n, c, h1, h2, h3, h4⟩ := h.rep.shape
  simp only [List.length_map] at h2
  subst h2
  exact ⟨a, c, h1, h3, h4⟩
theorem freezeL {Γ : Gho} {S : List Res} {w : World} {v : Value} {gs : List FactH} (hok : FsOk0 gs) (hw : Wd Γ (.own v 24 2 (gs.map cF) :: (gs.map ownA ++ S)) w) : ∃ Γ', Γ.le Γ' ∧ RL Γ' v gs ∧ Wd Γ' S w := by
  obtain ⟨Γ1, l1, r1, h1⟩ := hw.freeze
  obtain ⟨Γ2, l2, r2, h2⟩ := freezeAll gs h1
  exact ⟨Γ2, l1.trans l2, ⟨r1.mono l2, fun g hg => ⟨r2 g hg, hok g hg⟩⟩, h2⟩
def insS (l : List Fact) (f : Fact) : List Fact × Int := if rightS f = true then (if (setS (l ++ [f])).length ≤ 8192 then (setS (l ++ [f]), 0) else ([], 15)) else ([], 63)
section
variable {Γ : Gho} {S : List Res} {w : World}
theorem Insert_any {v : Value} {f : FactH} (fs : List FactH) (hok : FsOk Γ fs) (hl : fs.length ≤ 50000) (hf : FOk Γ f) (hfo : FactOk f.fact) (hr : RdS Γ S v 2 (fs.map cF)) (hw : Wd Γ S w) :
    Calls Tryz.prog 19 #[v, .agg (cF f).toArray] w fun e w' => ∃ Γ' v' gs, Γ.le Γ' ∧ e = .returned (.tuple #[v', .int .i64 (insS (facts fs) f.fact).2]) ∧ facts gs = (insS (facts fs) f.fact).1 ∧ RL Γ' v' gs ∧ Wd Γ' S w' := by
  obtain ⟨a, n, c, rfl, hn, hnc, hc⟩ := hr.shape
  simp only [List.length_map] at hn
  have hR := pg_right hf hfo
  have hall : FsOk Γ (fs ++ [f]) := fun x hx => by
    rcases List.mem_append.1 hx with q | q
    · exact hok x q
    · rw [List.mem_singleton.1 q]; exact ⟨hf, hfo⟩
  refine calls_of_W Tryz.func19 rfl rfl ?_
  repeat (first | refine byW ?_ | (refine byV ?_; intro w hw))
  refine lBox ?_
  intro b w hw
  have hw : Wd Γ (boxF b f :: S) w := hw
  repeat (first | refine byW ?_ | (refine byV ?_; intro w hw))
  refine W_cond rfl (fun h => ?_) (fun h => ?_)
  · have h : rightS f.fact = false := by simpa using h
    have hI : insS (facts fs) f.fact = ([], 63) := if_neg (by rw [h]; decide)
    rw [hI]
    repeat (first | refine byW ?_ | (refine byV ?_; intro w hw))
    exact ⟨_, rfl, Γ, _, [], Gho.le.refl _, rfl, rfl, RL.nil, hw.drop⟩
  have h : rightS f.fact = true := by simpa using h
  repeat (first | refine byW ?_ | (refine byV ?_; intro w hw))
  refine W_mixE 2 [[],[0],[],[1],[0],[0],[0]] [[],[0],[],[1],[0,1],[0],[0]] [[11, 14, 15, 6], [13]] ?_
  repeat (first | refine mY ?_ | refine mP ?_ | refine mPg ?_)
  refine mCallG (c := 0) (F := fun _ => []) (fun g => [.own (g 11) 24 2 (fs.map cF)]) (fun _ => [.slice a n c]) (fun g w Y hw => ?_) ?_
  · have hR2 : RdS Γ ((boxF b f :: S) ++ Y) (.slice a n c) 2 (fs.map cF) := RdS.app (RdS.cons hr)
    refine (Clone_facts hR2 (by omega) hw).mono ?_
    rintro e w ⟨v1, rfl, hw⟩
    exact ⟨v1, rfl, hw⟩
  repeat (first | refine mY ?_ | refine mP ?_ | refine mPg ?_)
  refine mBuild [cF f] ?_
  refine mAppOwn2 (rows2 := [cF f]) ?_ (cFs_one [f]) (hb := by simp; omega) (h63 := by simp; omega)
  refine mCallG (c := 0) (F := fun g => [.own (g 14) 24 2 (fs.map cF ++ [cF f])]) (exC (fun (t : Value × List FactH) g => g 15 = t.1 ∧ facts t.2 = setS (facts fs ++ [f.fact]) ∧ FsOk0 t.2) fun t => .own t.1 24 2 (t.2.map cF) :: t.2.map ownA) (fun g => [g 14]) (fun g w Y hw => ?_) ?_
  · have hw : Wd Γ ([.own (ovr [11, 14, 15, 6] g noFr 14) 24 2 ((fs ++ [f]).map cF)] ++ ((boxF b f :: S) ++ Y)) w := by rw [List.map_append]; exact hw
    refine (setO_any (fs ++ [f]) hall (by simp; omega) (RdS.own (i := 0) hw rfl) hw).mono ?_
    clear hw
    rintro e w ⟨v1, gs, rfl, h1, h2, hw⟩
    have h1 : facts gs = setS (facts fs ++ [f.fact]) := by rw [h1]; unfold facts; rw [List.map_append]; rfl
    refine ⟨v1, rfl, exC_mk (v1, gs) ⟨rfl, h1, h2⟩ ?_⟩
    have hw : Wd Γ ((.own v1 24 2 (gs.map cF) :: gs.map ownA) ++ (.own (ovr [11, 14, 15, 6] g noFr 14) 24 2 ((fs ++ [f]).map cF) :: ((boxF b f :: S) ++ Y))) w := hw
    exact (hw.perm List.perm_middle).drop
  refine mPureX (c := 0) (T := Value × List FactH) (φ := fun t g => g 15 = t.1 ∧ facts t.2 = setS (facts fs ++ [f.fact]) ∧ FsOk0 t.2) (fun t => t.1) (fun t g w Y ht _ => y_assign ht.1) ?_ (hφ := fun t g u h => h)
  refine mEnd fun w g hw => ?_
  have hw : Wd Γ ((boxF b f :: S) ++ (exC (fun (t : Value × List FactH) g => (g 15 = t.1 ∧ facts t.2 = setS (facts fs ++ [f.fact]) ∧ FsOk0 t.2) ∧ g 6 = t.1) (fun t => .own t.1 24 2 (t.2.map cF) :: t.2.map ownA) (ovr [11, 14, 15, 6] g noFr) ++ ([.own (g 13) 24 2 [cF f]] ++ []))) w := hw
  obtain ⟨⟨v1, gs⟩, ⟨⟨-, h1, h2⟩, e6⟩, hw⟩ := exC_open hw.swapApp
  have e6 : g 6 = v1 := e6
  have h1 : facts gs = setS (facts fs ++ [f.fact]) := h1
  have h2 : FsOk0 gs := h2
  obtain ⟨Γ1, l1, hL, hw⟩ := freezeL h2 hw
  have hw5 : Wd Γ1 (boxF b f :: S) w := hw.left
  have hgl : gs.length = (setS (facts fs ++ [f.fact])).length := by rw [← h1]; unfold facts; rw [List.length_map]
  have hL : RL Γ1 v1 gs := hL
  obtain ⟨a6, c6, rfl, k1, k2⟩ := hL.len
  have hw : Wd Γ1 (boxF b f :: S) w := hw5
  refine W_has (l := [(6, .slice a6 gs.length c6)]) ⟨e6, trivial⟩ fun ρ hρ => ?_
  rw [hρ.eq]
  repeat (first | refine byW ?_ | (refine byV ?_; intro w hw))
  refine W_cond rfl (fun h5 => ?_) (fun h5 => ?_)
  · have h5 : 8192 < gs.length := by have := of_decide_eq_true h5; omega
    have hI : insS (facts fs) f.fact = ([], 15) := by unfold insS; rw [if_pos h, if_neg (by omega)]
    rw [hI]
    repeat (first | refine byW ?_ | (refine byV ?_; intro w hw))
    exact ⟨_, rfl, Γ1, _, [], l1, rfl, rfl, RL.nil, hw.drop⟩
  · have h5 : gs.length ≤ 8192 := by have := of_decide_eq_false h5; omega
    have hI : insS (facts fs) f.fact = (setS (facts fs ++ [f.fact]), 0) := by unfold insS; rw [if_pos h, if_pos (by omega)]
    rw [hI]
    repeat (first | refine byW ?_ | (refine byV ?_; intro w hw))
    exact ⟨_, rfl, Γ1, _, gs, l1, rfl, h1, hL, hw.drop⟩
end
end Go.Proofs.YtmjkacgmepbljaaGreatDoor
end
/- The reference's lexer: digits, numerals. -/
section
open Go Mk
namespace Go.Proofs.YtmjkacgmepbljaaGreatDoor
set_option maxHeartbeats 4000000
attribute [local irreducible] Calls

instance pc_hex (b : UInt8) : PC Tryz.prog 127 [.int .u8 ((b.toNat : Nat) : Int)] (.int .i64 (hexV ((b.toNat : Nat) : Int))) := ⟨fun w => by
  obtain ⟨hc0, hc1⟩ := byte_le b
  generalize ((b.toNat : Nat) : Int) = c at *
  refine calls_of_W Tryz.func127 rfl rfl ?_
  repeat (first | refine byW ?_ | (refine byV ?_; intro w hw))
  refine W_cond rfl (fun h => ?_) (fun h => ?_)
  · repeat (first | refine byW ?_ | (refine byV ?_; intro w hw))
    refine ⟨_, rfl, ret_i rfl ?_, rfl⟩
    have h1 : 48 ≤ c ∧ c ≤ 57 := by simpa [digitB] using h
    rw [u8_wrap (by omega) (by omega), wrap_i64 (by omega) (by omega)]
    unfold hexV; rw [if_pos h]
  · repeat (first | refine byW ?_ | (refine byV ?_; intro w hw))
    refine W_cond rfl (fun h2 => ?_) (fun h2 => ?_)
    · repeat (first | refine byW ?_ | (refine byV ?_; intro w hw))
      refine ⟨_, rfl, ret_i rfl ?_, rfl⟩
      have h1 : 97 ≤ c ∧ c ≤ 102 := by simpa using h2
      rw [u8_wrap (by omega) (by omega), wrap_i64 (a := c - 97) (by omega) (by omega), wrap_i64 (by omega) (by omega)]
      unfold hexV; rw [if_neg (by simp [h]), if_pos h2]
    · repeat (first | refine byW ?_ | (refine byV ?_; intro w hw))
      refine W_cond rfl (fun h3 => ?_) (fun h3 => ?_)
      · repeat (first | refine byW ?_ | (refine byV ?_; intro w hw))
        refine ⟨_, rfl, ret_i rfl ?_, rfl⟩
        have h1 : 65 ≤ c ∧ c ≤ 70 := by simpa using h3
        rw [u8_wrap (by omega) (by omega), wrap_i64 (a := c - 65) (by omega) (by omega), wrap_i64 (by omega) (by omega)]
        unfold hexV; rw [if_neg (by simp [h]), if_neg (by simpa using h2), if_pos h3]
      · repeat (first | refine byW ?_ | (refine byV ?_; intro w hw))
        refine ⟨_, rfl, ret_i rfl ?_, rfl⟩
        unfold hexV; rw [if_neg (by simp [h]), if_neg (by simpa using h2), if_neg (by simpa using h3)]⟩
instance pc_plain (c : Int) : PC Tryz.prog 116 [.int .u8 c] (.bool (inStr c)) := ⟨fun w => by
  refine calls_of_W Tryz.func116 rfl rfl ?_
  repeat (first | refine byW ?_ | (refine byV ?_; intro w hw))
  exact ⟨_, rfl, rfl, rfl⟩⟩
theorem u64_rng (a : Int) : 0 ≤ IntKind.u64.wrap a ∧ IntKind.u64.wrap a ≤ 18446744073709551615 := by
  simp [IntKind.wrap, IntKind.bits, IntKind.signed]; omega
theorem valL_app (base : Nat) : ∀ (l r : List UInt8) (v : Nat), valL base (l ++ r) v = valL base r (valL base l v)
  | [], _, _ => rfl
  | c :: l, r, v => valL_app base l r _
theorem digV_ok {c base : Int} (h0 : 0 ≤ hexV c) (h1 : hexV c < base) : digV c base = hexV c := by unfold digV; rw [if_neg (by omega)]
theorem digV_bad {c base : Int} (hb : 0 < base) (h : hexV c < 0 ∨ base ≤ hexV c) : digV c base < 0 := by
  have := hexV_range c
  unfold digV
  split
  · decide
  · omega
set_option maxRecDepth 4000 in
theorem rnumber_any {Γ : Gho} {S : List Res} {w : World} (s : ByteArray) (hs : s.size ≤ 4611686018427387904) (h0 : 0 < s.size) (hw : Wd Γ S w) :
    Calls Tryz.prog 111 #[.string s] w fun e w' => e = .returned (.tuple #[.int .u64 (numS s).1, .int .i64 (numS s).2]) ∧ Wd Γ S w' := by
  refine calls_of_W Tryz.func111 rfl rfl ?_
  have e1 : ((s.size : Int) - 1).toNat = s.size - 1 := by omega
  repeat (first | refine byW ?_ | (refine byV ?_; intro w hw))
  refine W_cutB (fun ρ w' => ∃ sh : Nat, Has ρ [(0, .string s), (4, .int .u64 sh)] ∧ Wd Γ S w' ∧ sh = sufK (byteAt s (s.size - 1))) ?_ ?_
  · rw [e1]
    refine W_cond rfl (fun h => ?_) (fun h => ?_)
    · have h : byteAt s (s.size - 1) = 75 := of_decide_eq_true h
      repeat (first | refine byW ?_ | (refine byV ?_; intro w hw))
      exact ⟨10, ⟨rfl, rfl, trivial⟩, hw, by rw [h]; rfl⟩
    repeat (first | refine byW ?_ | (refine byV ?_; intro w hw))
    refine W_cond rfl (fun h2 => ?_) (fun h2 => ?_)
    · have h : byteAt s (s.size - 1) = 77 := of_decide_eq_true h2
      repeat (first | refine byW ?_ | (refine byV ?_; intro w hw))
      exact ⟨20, ⟨rfl, rfl, trivial⟩, hw, by rw [h]; rfl⟩
    repeat (first | refine byW ?_ | (refine byV ?_; intro w hw))
    refine W_cond rfl (fun h3 => ?_) (fun h3 => ?_)
    · have h : byteAt s (s.size - 1) = 71 := of_decide_eq_true h3
      repeat (first | refine byW ?_ | (refine byV ?_; intro w hw))
      exact ⟨30, ⟨rfl, rfl, trivial⟩, hw, by rw [h]; rfl⟩
    · have h : ¬ byteAt s (s.size - 1) = 75 := of_decide_eq_false h
      have h2 : ¬ byteAt s (s.size - 1) = 77 := of_decide_eq_false h2
      have h3 : ¬ byteAt s (s.size - 1) = 71 := of_decide_eq_false h3
      repeat (first | refine byW ?_ | (refine byV ?_; intro w hw))
      exact ⟨0, ⟨rfl, rfl, trivial⟩, hw, by unfold sufK; rw [if_neg h3, if_neg h2, if_neg h]⟩
  clear hw
  rintro ρ w ⟨sh, hρ, hw, hsh⟩
  rw [hρ.eq]
  have hcase := sufK_cases (byteAt s (s.size - 1))
  rw [← hsh] at hcase
  repeat (first | refine byW ?_ | (refine byV ?_; intro w hw))
  refine W_cutT (fun ρ w'' => Has ρ [(0, .string (cutS s)), (4, .int .u64 sh)] ∧ Wd Γ S w'') ?_ ?_
  · refine W_cond rfl (fun h => ?_) (fun h => ?_)
    · have h : 0 < sh := by have := of_decide_eq_true h; omega
      repeat (first | refine byW ?_ | (refine byV ?_; intro w hw))
      rw [e1]
      exact ⟨⟨by unfold cutS; rw [← hsh, if_pos h]; rfl, rfl, trivial⟩, hw⟩
    · have h : ¬ 0 < sh := by have := of_decide_eq_false h; omega
      repeat (first | refine byW ?_ | (refine byV ?_; intro w hw))
      exact ⟨⟨by unfold cutS; rw [← hsh, if_neg h]; rfl, rfl, trivial⟩, hw⟩
  clear hw
  rintro ρ w ⟨hρ, hw⟩
  rw [hρ.eq, numS_body, ← hsh]
  have hsz : (cutS s).size ≤ 4611686018427387904 := by
    unfold cutS; split
    · rw [sub_size (by omega)]; omega
    · exact hs
  generalize cutS s = s' at *
  clear hsh hρ e1
  have hx0 : (2 : Int) < s'.size → byteAt s' ((0 : Int).toNat) = byteAt s' 0 := fun _ => rfl
  repeat (first | refine byW ?_ | (refine byV ?_; intro w hw))
  refine W_cutT (fun ρ w => ∃ (s2 : ByteArray) (base : Nat), Has ρ [(0, .string s2), (4, .int .u64 sh), (5, .int .u64 base)] ∧ Wd Γ S w ∧ numBody sh s' = numCore base sh (bts s2) ∧ (base = 10 ∨ base = 16) ∧ s2.size ≤ 4611686018427387904) ?_ ?_
  · refine W_cond rfl (fun h => ?_) (fun h => ?_)
    · have h : 2 < s'.size ∧ byteAt s' 0 = 48 ∧ byteAt s' 1 = 120 := by
        simp only [Bool.and_eq_true, decide_eq_true_eq] at h
        exact ⟨by omega, h.1.2, h.2⟩
      refine W_quiet (by kernel_rfl) (by kernel_rfl) hw ?_
      repeat (first | refine Q_nil ?_ | (apply Q_plain; first | (apply Q_go; first | refine qP ?_ | refine qPg ?_) | refine qY ?_) | (apply Q_guarded; first | (apply Q_go; first | refine qPG ?_ | refine qPgG ?_) | refine qG ?_))
      intro w hw
      exact ⟨bSub s' 2 s'.size, 16, ⟨rfl, rfl, rfl, trivial⟩, hw, by unfold numBody; rw [if_pos ⟨by omega, h.2⟩, if_neg (by omega)], .inr rfl, by rw [sub_size (Nat.le_refl _)]; omega⟩
    · have h : ¬ (2 < s'.size ∧ byteAt s' 0 = 48 ∧ byteAt s' 1 = 120) := fun hh => by
        have q : (decide ((2 : Int) < s'.size) && decide (byteAt s' 0 = 48) && decide (byteAt s' 1 = 120)) = true := by
          simp only [Bool.and_eq_true, decide_eq_true_eq]
          exact ⟨⟨by omega, hh.2.1⟩, hh.2.2⟩
        exact absurd (q.symm.trans h) (by decide)
      repeat (first | refine byW ?_ | (refine byV ?_; intro w hw))
      refine W_cond rfl (fun h2 => ?_) (fun h2 => ?_)
      · have h2 : s'.size = 0 ∨ (1 < s'.size ∧ byteAt s' 0 = 48) := by
          simp only [Bool.or_eq_true, Bool.and_eq_true, decide_eq_true_eq] at h2
          rcases h2 with h2 | h2
          · exact .inl (by omega)
          · exact .inr ⟨by omega, h2.2⟩
        have hb : numBody sh s' = (0, 50) := by
          unfold numBody
          by_cases h3 : 2 ≤ s'.size ∧ byteAt s' 0 = 48 ∧ byteAt s' 1 = 120
          · rw [if_pos h3, if_pos (by omega)]
          · rw [if_neg h3, if_pos h2]
        rw [hb]
        repeat (first | refine byW ?_ | (refine byV ?_; intro w hw))
        exact ⟨_, rfl, rfl, hw⟩
      · have h2 : ¬ (s'.size = 0 ∨ (1 < s'.size ∧ byteAt s' 0 = 48)) := fun hh => by
          have q : (decide ((s'.size : Int) = 0) || (decide ((1 : Int) < s'.size) && decide (byteAt s' 0 = 48))) = true := by
            simp only [Bool.or_eq_true, Bool.and_eq_true, decide_eq_true_eq]
            rcases hh with hh | hh
            · exact .inl (by omega)
            · exact .inr ⟨by omega, hh.2⟩
          exact absurd (q.symm.trans h2) (by decide)
        repeat (first | refine byW ?_ | (refine byV ?_; intro w hw))
        refine ⟨s', 10, ⟨rfl, rfl, rfl, trivial⟩, hw, ?_, .inl rfl, hsz⟩
        unfold numBody
        rw [if_neg (fun hh => h2 (.inr ⟨by omega, hh.2.1⟩)), if_neg h2]
  clear hw
  rintro ρ w ⟨s2, base, hρ, hw, hN, hbase, hsz2⟩
  rw [hρ.eq, hN]
  clear hN hρ hsz hx0
  have hbl := bts_len s2
  repeat (first | refine byW ?_ | (refine byV ?_; intro w hw))
  refine W_loop (fun μ ρ w => ∃ (k : Nat) (v : Int) (big : Bool), μ + k = s2.size ∧ Has ρ [(0, .string s2), (4, .int .u64 sh), (5, .int .u64 base), (6, .int .u64 v), (7, .bool big), (8, .int .i64 k)] ∧ ((bts s2).take k).all (fun c => decide (0 ≤ digV c.toNat base)) = true ∧ 0 ≤ v ∧ v ≤ 18446744073709551615 ∧ (if big = true then most64 < valL base (bts s2) 0 else valL base (bts s2) 0 = valL base ((bts s2).drop k) v.toNat) ∧ Wd Γ S w) s2.size ⟨0, 0, false, by omega, ⟨rfl, rfl, rfl, rfl, rfl, rfl, trivial⟩, rfl, by omega, by omega, rfl, hw⟩ ?_
  clear hw
  rintro μ ρ w ⟨k, v, big, hk, hρ, hall, hv0, hv1, hbig, hw⟩
  rw [hρ.eq]
  have hmost : (most64 : Int) = 18446744073709551615 := rfl
  repeat (first | refine byW ?_ | (refine byV ?_; intro w hw))
  refine W_cond rfl (fun h1 => ?_) (fun h1 => ?_)
  · have hkn : k < s2.size := by simpa using h1
    obtain ⟨c, hc⟩ := get_lt (l := bts s2) (k := k) (by omega)
    have hg : s2.data.toList.getD (k : Int).toNat 0 = c := by
      show (bts s2).getD k 0 = c
      rw [List.getD_eq_getElem?_getD, hc]; rfl
    have hmem : c ∈ bts s2 := List.mem_of_getElem? hc
    have hr := hexV_range c.toNat
    repeat (first | refine byW ?_ | (refine byV ?_; intro w hw))
    rw [hg]
    refine W_cond rfl (fun h2 => ?_) (fun h2 => ?_)
    · have hbad : digV c.toNat base < 0 := by
        refine digV_bad (by omega) ?_
        by_cases hn : hexV c.toNat < 0
        · exact .inl hn
        · rw [u64_wrap (a := hexV c.toNat) (by omega) (by omega)] at h2
          simp only [Bool.or_eq_true, decide_eq_true_eq] at h2
          exact h2
      have hf : (bts s2).all (fun c => decide (0 ≤ digV c.toNat base)) = false := by
        rw [List.all_eq_false]
        exact ⟨c, hmem, by simp; omega⟩
      repeat (first | refine byW ?_ | (refine byV ?_; intro w hw))
      exact ⟨_, rfl, by unfold numCore; rw [if_pos hf]; rfl, hw⟩
    have hn : 0 ≤ hexV c.toNat ∧ hexV c.toNat < base := by
      simp only [Bool.or_eq_false_iff, decide_eq_false_iff_not] at h2
      have h3 := h2.2
      rw [u64_wrap (a := hexV c.toNat) (by omega) (by omega)] at h3
      omega
    have hd0 := digV_ok hn.1 hn.2
    obtain ⟨d, hd⟩ : ∃ d : Nat, hexV c.toNat = (d : Int) := ⟨(hexV c.toNat).toNat, by omega⟩
    rw [hd] at hn hd0
    have hval1 : valL base ((bts s2).drop k) v.toNat = valL base ((bts s2).drop (k + 1)) (v.toNat * base + d) := by
      rw [drop_at hc]
      show valL base _ (v.toNat * base + (digV c.toNat base).toNat) = _
      rw [hd0]; rfl
    have hall2 : ((bts s2).take (k + 1)).all (fun c => decide (0 ≤ digV c.toNat base)) = true := by
      rw [List.take_add_one, hc, List.all_append, hall]
      simp [hd0]
    have hw1 : IntKind.u64.wrap (d : Int) = d := u64_wrap (by omega) (by omega)
    have hw2 : IntKind.u64.wrap (18446744073709551615 - (d : Int)) = 18446744073709551615 - d := u64_wrap (by omega) (by omega)
    have hdiv : (18446744073709551615 - (d : Int)).tdiv base = (18446744073709551615 - (d : Int)) / base := Int.tdiv_eq_ediv_of_nonneg (by omega)
    have hq0 : 0 ≤ (18446744073709551615 - (d : Int)) / base := Int.ediv_nonneg (by omega) (by omega)
    have hq1 : (18446744073709551615 - (d : Int)) / base ≤ 18446744073709551615 - (d : Int) := Int.ediv_le_self _ (by omega)
    have hw3 : IntKind.u64.wrap ((18446744073709551615 - (d : Int)) / base) = (18446744073709551615 - (d : Int)) / base := u64_wrap hq0 (by omega)
    have hle : v ≤ (18446744073709551615 - (d : Int)) / base ↔ v * base ≤ 18446744073709551615 - d := Int.le_ediv_iff_mul_le (by omega)
    clear hall hmem
    repeat (first | refine byW ?_ | (refine byV ?_; intro w hw))
    rw [hd, hw1, hw2, hdiv, hw3]
    refine W_cutT (fun ρ w => ∃ big2 : Bool, Has ρ [(0, .string s2), (4, .int .u64 sh), (5, .int .u64 base), (6, .int .u64 v), (7, .bool big2), (8, .int .i64 k), (9, .int .i64 d)] ∧ (if big2 = true then most64 < valL base (bts s2) 0 else valL base (bts s2) 0 = valL base ((bts s2).drop (k + 1)) (v.toNat * base + d) ∧ v * base ≤ 18446744073709551615 - d) ∧ Wd Γ S w) ?_ ?_
    · refine W_cond rfl (fun h3 => ?_) (fun h3 => ?_)
      · have h3 : (18446744073709551615 - (d : Int)) / base < v := of_decide_eq_true h3
        repeat (first | refine byW ?_ | (refine byV ?_; intro w hw))
        refine ⟨true, ⟨rfl, rfl, rfl, rfl, rfl, rfl, by rw [← hd]; rfl, trivial⟩, ?_, hw⟩
        rw [if_pos rfl]
        cases big with
        | true => exact hbig
        | false =>
          rw [if_neg (by decide)] at hbig
          rw [hbig, hval1]
          have h4 : ¬ v * base ≤ 18446744073709551615 - d := fun hh => by have := hle.2 hh; omega
          have h5 := valL_le base (by omega) ((bts s2).drop (k + 1)) (v.toNat * base + d)
          have h6 : ((v.toNat * base + d : Nat) : Int) = v * base + d := by
            push_cast
            rw [Int.toNat_of_nonneg hv0]
          omega
      · have h3 : ¬ (18446744073709551615 - (d : Int)) / base < v := of_decide_eq_false h3
        repeat (first | refine byW ?_ | (refine byV ?_; intro w hw))
        refine ⟨big, ⟨rfl, rfl, rfl, rfl, rfl, rfl, by rw [← hd]; rfl, trivial⟩, ?_, hw⟩
        cases big with
        | true => exact hbig
        | false =>
          rw [if_neg (by decide)] at hbig ⊢
          exact ⟨hbig.trans hval1, hle.1 (by omega)⟩
    clear hw hρ hbig
    rintro ρ w ⟨big2, hρ, hbig, hw⟩
    rw [hρ.eq]
    repeat (first | refine byW ?_ | (refine byV ?_; intro w hw))
    have r1 := u64_rng (v * base)
    have r2 := u64_rng (IntKind.u64.wrap (v * base) + d)
    refine ⟨μ - 1, by omega, k + 1, IntKind.u64.wrap (IntKind.u64.wrap (v * base) + d), big2, by omega, ⟨rfl, rfl, rfl, by rw [hw1]; rfl, rfl, rfl, trivial⟩, hall2, r2.1, r2.2, ?_, hw⟩
    cases big2 with
    | true => exact hbig
    | false =>
      rw [if_neg (by decide)] at hbig ⊢
      have hm0 : 0 ≤ v * base := Int.mul_nonneg hv0 (by omega)
      rw [u64_wrap (a := v * base) hm0 (by omega), u64_wrap (a := v * base + d) (by omega) (by omega), hbig.1]
      congr 1
      have h6 : ((v.toNat * base + d : Nat) : Int) = v * base + d := by
        push_cast
        rw [Int.toNat_of_nonneg hv0]
      omega
  have hkn : ¬ k < s2.size := by simpa using h1
  rw [List.take_of_length_le (by omega)] at hall
  rw [List.drop_eq_nil_of_le (by omega)] at hbig
  have hcore : numCore base sh (bts s2) = if most64 >>> sh < valL base (bts s2) 0 then (0, 6) else (valL base (bts s2) 0 <<< sh, 0) := by
    unfold numCore
    rw [if_neg (by rw [hall]; simp)]
  rw [hcore]
  have h6 : most64 >>> sh ≤ most64 := Nat.shiftRight_le _ _
  have key1 : (18446744073709551615 : Int).fdiv (2 ^ (min (sh : Int).toNat IntKind.u64.bits)) = ((most64 >>> sh : Nat) : Int) := by
    rcases hcase with rfl | rfl | rfl | rfl <;> decide +kernel
  have hmin : min (sh : Int).toNat IntKind.u64.bits = sh := by
    rcases hcase with rfl | rfl | rfl | rfl <;> rfl
  repeat (first | refine byW ?_ | (refine byV ?_; intro w hw))
  rw [key1]
  refine W_cond rfl (fun h2 => ?_) (fun h2 => ?_)
  · have h3 : most64 >>> sh < valL base (bts s2) 0 := by
      cases big with
      | true => rw [if_pos rfl] at hbig; omega
      | false =>
        rw [if_neg (by decide)] at hbig
        have hbig : valL base (bts s2) 0 = v.toNat := hbig
        simp only [Bool.false_or, decide_eq_true_eq] at h2
        omega
    repeat (first | refine byW ?_ | (refine byV ?_; intro w hw))
    exact ⟨_, rfl, by rw [if_pos h3]; rfl, hw⟩
  · have hb : big = false ∧ ¬ ((most64 >>> sh : Nat) : Int) < v := by
      simp only [Bool.or_eq_false_iff, decide_eq_false_iff_not] at h2
      exact h2
    obtain ⟨rfl, h2⟩ := hb
    rw [if_neg (by decide)] at hbig
    have hbig : valL base (bts s2) 0 = v.toNat := hbig
    rw [hbig, if_neg (by omega)]
    have h3 : v.toNat * 2 ^ sh ≤ most64 := by
      rw [Nat.shiftRight_eq_div_pow] at h2
      exact (Nat.le_div_iff_mul_le (Nat.two_pow_pos sh)).1 (by omega)
    have h4 : IntKind.u64.wrap (v * 2 ^ (min (sh : Int).toNat IntKind.u64.bits)) = ((v.toNat <<< sh : Nat) : Int) := by
      rw [hmin, Nat.shiftLeft_eq]
      have e : ((v.toNat * 2 ^ sh : Nat) : Int) = v * 2 ^ sh := by push_cast; rw [Int.toNat_of_nonneg hv0]
      rw [← e]
      have hmost : most64 = 18446744073709551615 := rfl
      exact u64_wrap (by omega) (by omega)
    repeat (first | refine byW ?_ | (refine byV ?_; intro w hw))
    refine ⟨_, rfl, ?_, hw⟩
    show Ending.returned (.tuple #[.int .u64 (IntKind.u64.wrap (v * 2 ^ (min (sh : Int).toNat IntKind.u64.bits))), .int .i64 0]) = _
    rw [h4]
end Go.Proofs.YtmjkacgmepbljaaGreatDoor
end
/- Lists of facts that stand for ever, compared and looked through; the reference's well-formed facts. -/
section
open Go Mk
namespace Go.Proofs.YtmjkacgmepbljaaGreatDoor
set_option maxHeartbeats 16000000
attribute [local irreducible] Calls cFact

section
variable {Γ : Gho}
theorem pg_contains {v : Value} {fs : List FactH} {f : FactH} (h : RL Γ v fs) (hf : FOk Γ f) : PG Tryz.prog Γ 20 [v, .agg (cF f).toArray] (.bool (decide (f.fact ∈ facts fs))) := ⟨fun S w hw => Contains_any fs h.ok hf h.rep.rdS hw⟩
theorem pg_same {va vb : Value} {fs gs : List FactH} (ha : RL Γ va fs) (hb : RL Γ vb gs) : PG Tryz.prog Γ 13 [va, vb] (.bool (decide (facts fs = facts gs))) := ⟨fun S w hw => by
  have hra := ha.rep
  have hrb := hb.rep
  obtain ⟨a, n, c, rfl, hn, hnc, hc⟩ := hra.shape
  obtain ⟨b, m, c', rfl, hm, hmc, hc'⟩ := hrb.shape
  simp only [List.length_map] at hn hm
  have hfa : (facts fs).length = fs.length := List.length_map ..
  have hfb : (facts gs).length = gs.length := List.length_map ..
  refine calls_of_W Tryz.func13 rfl rfl ?_
  repeat (first | refine byW ?_ | (refine byV ?_; intro w hw))
  refine W_cond rfl (fun h => ?_) (fun h => ?_)
  · repeat (first | refine byW ?_ | (refine byV ?_; intro w hw))
    refine ⟨_, rfl, ret_b rfl ?_, hw⟩
    symm
    rw [decide_eq_false_iff_not]
    intro he
    have := congrArg List.length he
    have h := of_decide_eq_true h
    omega
  · have hnm : n = m := by have := of_decide_eq_false h; omega
    subst hnm
    repeat (first | refine byW ?_ | (refine byV ?_; intro w hw))
    refine W_loop (fun μ ρ w => ∃ (k : Nat), μ + k = n ∧ Has ρ [(0, .slice a n c), (1, .slice b n c'), (5, .int .i64 k)] ∧ decide (facts fs = facts gs) = decide ((facts fs).drop k = (facts gs).drop k) ∧ Wd Γ S w) n ⟨0, by omega, ⟨rfl, rfl, rfl, trivial⟩, rfl, hw⟩ ?_
    clear hw
    rintro μ ρ w ⟨k, hk, hρ, ho, hw⟩
    rw [hρ.eq]
    repeat (first | refine byW ?_ | (refine byV ?_; intro w hw))
    refine W_cond rfl (fun h => ?_) (fun h => ?_)
    · have hkn : k < n := by have := of_decide_eq_true h; omega
      obtain ⟨x, hx⟩ := get_lt (l := fs) (k := k) (by omega)
      obtain ⟨y, hy⟩ := get_lt (l := gs) (k := k) (by omega)
      have hfx : (facts fs)[k]? = some x.fact := by unfold facts; rw [List.getElem?_map, hx]; rfl
      have hfy : (facts gs)[k]? = some y.fact := by unfold facts; rw [List.getElem?_map, hy]; rfl
      rw [drop_get hfx, drop_get hfy] at ho
      have hC := pg_refF (ha.ok x (List.mem_of_getElem? hx)).1 (hb.ok y (List.mem_of_getElem? hy)).1
      repeat (first | refine byW ?_ | (refine byV ?_; intro w hw))
      refine W_quiet (by kernel_rfl) (by kernel_rfl) hw ?_
      repeat (first | refine Q_nil ?_ | (apply Q_plain; first | (apply Q_go; first | refine qP ?_ | refine qPg ?_) | refine qY ?_) | (apply Q_guarded; first | (apply Q_go; first | refine qPG ?_ | refine qPgG ?_) | refine qG ?_))
      intro w hw
      refine W_cond rfl (fun h3 => ?_) (fun h3 => ?_)
      · have h3 : ¬ cFact x.fact y.fact = 0 := of_decide_eq_true h3
        repeat (first | refine byW ?_ | (refine byV ?_; intro w hw))
        refine ⟨_, rfl, ret_b rfl ?_, hw⟩
        rw [ho]
        symm
        rw [decide_eq_false_iff_not]
        intro he
        have he := (List.cons.inj he).1
        rw [he, cFact_ord.refl] at h3
        exact h3 rfl
      · have h3 : cFact x.fact y.fact = 0 := Classical.not_not.1 (of_decide_eq_false h3)
        have h4 := cFact_ord.eq0 h3
        repeat (first | refine byW ?_ | (refine byV ?_; intro w hw))
        refine ⟨μ - 1, by omega, k + 1, by omega, ⟨rfl, rfl, rfl, trivial⟩, ?_, hw⟩
        rw [ho, h4]
        simp
    · have hkn : ¬ k < n := by have := of_decide_eq_false h; omega
      rw [drop_none (facts fs) (by omega), drop_none (facts gs) (by omega)] at ho
      repeat (first | refine byW ?_ | (refine byV ?_; intro w hw))
      exact ⟨_, rfl, ret_b rfl (by rw [ho]; rfl), hw⟩⟩
end
theorem pc_Plain (s : ByteArray) (hs : s.size ≤ 100000) : PC Tryz.prog 93 [.string s] (.bool (allStr s)) := ⟨fun w => by
  refine calls_of_W Tryz.func93 rfl rfl ?_
  repeat (first | refine byW ?_ | (refine byV ?_; intro w hw))
  refine W_loop (fun μ ρ w' => ∃ (k : Nat), μ + k = s.size ∧ Has ρ [(0, .string s), (3, .int .i64 k)] ∧ (∀ i, i < k → inStr (byteAt s i) = true) ∧ w' = w) s.size ⟨0, by omega, ⟨rfl, rfl, trivial⟩, fun i hi => by omega, rfl⟩ ?_
  rintro μ ρ w' ⟨k, hk, hρ, hall, rfl⟩
  rw [hρ.eq]
  repeat (first | refine byW ?_ | (refine byV ?_; intro w hw))
  refine W_cond rfl (fun h => ?_) (fun h => ?_)
  · have hkn : k < s.size := by have := of_decide_eq_true h; omega
    repeat (first | refine byW ?_ | (refine byV ?_; intro w hw))
    refine W_cond rfl (fun h2 => ?_) (fun h2 => ?_)
    · repeat (first | refine byW ?_ | (refine byV ?_; intro w hw))
      refine ⟨_, rfl, ret_b rfl ?_, rfl⟩
      have h2' : (!inStr (byteAt s k)) = true := h2
      rw [allStr_f hkn (by simpa using h2')]
    · repeat (first | refine byW ?_ | (refine byV ?_; intro w hw))
      refine ⟨μ - 1, by omega, k + 1, by omega, ⟨rfl, rfl, trivial⟩, fun i hi => ?_, rfl⟩
      by_cases e : i = k
      · subst e
        have h2' : (!inStr (byteAt s i)) = false := h2
        simpa using h2'
      · exact hall i (by omega)
  · have hkn : ¬ k < s.size := by have := of_decide_eq_false h; omega
    repeat (first | refine byW ?_ | (refine byV ?_; intro w hw))
    exact ⟨_, rfl, ret_b rfl (by rw [allStr_t fun i hi => hall i (by omega)]), rfl⟩⟩
theorem pg_rightV {Γ : Gho} {v : Val} (hv : ValOk v) : PG Tryz.prog Γ 56 [.agg (enc v).toArray] (.bool (rightV v)) := ⟨fun S w hw => by
  have hP := pc_Plain v.Word hv.2
  have hsz := hv.2
  obtain ⟨k, x, t⟩ := v
  dsimp only at hP hsz
  refine calls_of_W Tryz.func56 rfl rfl ?_
  repeat (first | refine byW ?_ | (refine byV ?_; intro w hw))
  refine lBox ?_
  intro b1 w hw
  have hw : Wd Γ (.blk b1 (.cells (enc (⟨k, x, t⟩ : Val)).toArray 30) :: S) w := hw
  repeat (first | refine byW ?_ | (refine byV ?_; intro w hw))
  refine W_cond rfl (fun h => ?_) (fun h => ?_)
  · have h : k = 1 := of_decide_eq_true h
    repeat (first | refine byW ?_ | (refine byV ?_; intro w hw))
    refine ⟨_, rfl, ret_b rfl ?_, hw.drop⟩
    subst h
    unfold rightV
    simp
  have h : ¬ k = 1 := of_decide_eq_false h
  repeat (first | refine byW ?_ | (refine byV ?_; intro w hw))
  refine W_cond rfl (fun h2 => ?_) (fun h2 => ?_)
  · have h2 : k = 2 := of_decide_eq_true h2
    repeat (first | refine byW ?_ | (refine byV ?_; intro w hw))
    refine ⟨_, rfl, ret_b rfl ?_, hw.drop⟩
    subst h2
    unfold rightV textS
    show (((decide (x = 0) && decide (t ≠ ⟨#[]⟩)) && decide ((t.size : Int) ≤ 24)) && allStr t) = (decide ((2 : Int) = 1) && decide (t = ⟨#[]⟩) || decide ((2 : Int) = 2) && decide (x = 0) && (allStr t && decide (0 < t.size) && decide (t.size ≤ 24)))
    rw [show decide (t ≠ ⟨#[]⟩) = decide (0 < t.size) from by simp only [ne_nilB], show decide ((t.size : Int) ≤ 24) = decide (t.size ≤ 24) from decide_eq_decide.2 (by omega), show decide ((2 : Int) = 1) = false from rfl, show decide ((2 : Int) = 2) = true from rfl]
    cases allStr t <;> cases decide (0 < t.size) <;> cases decide (t.size ≤ 24) <;> cases decide (x = 0) <;> rfl
  have h2 : ¬ k = 2 := of_decide_eq_false h2
  repeat (first | refine byW ?_ | (refine byV ?_; intro w hw))
  refine ⟨_, rfl, ret_b rfl ?_, hw.drop⟩
  unfold rightV
  simp [h, h2]⟩
theorem pg_Right {Γ : Gho} {f : FactH} (hf : FOk Γ f) (ho : FactOk f.fact) : PG Tryz.prog Γ 17 [.agg (cF f).toArray] (.bool (rightS f.fact)) := ⟨fun S w hw => by
  obtain ⟨l1, l2, l3⟩ := hf.len
  obtain ⟨o1, o2, o3⟩ := ho
  have hr := hf
  unfold FOk FactH.hdr at hr
  obtain ⟨fr, fa, fn, fc, fs⟩ := f
  simp only [FactH.fact] at l1 l2 l3 o1 o2 o3 hr ⊢
  haveI : SB fr := ⟨by omega⟩
  refine calls_of_W Tryz.func17 rfl rfl ?_
  repeat (first | refine byW ?_ | (refine byV ?_; intro w hw))
  refine lBox ?_
  intro b1 w hw
  have hw : Wd Γ (.blk b1 (.cells #[.string fr, .slice fa fn fc] 24) :: S) w := hw
  repeat (first | refine byW ?_ | (refine byV ?_; intro w hw))
  refine W_loop (fun μ ρ w => ∃ (k : Nat), μ + k = fn ∧ Has ρ [(1, .pointer (some ⟨b1, 0, none⟩)), (3, .int .i64 k)] ∧ fs.all rightV = (fs.drop k).all rightV ∧ Wd Γ (.blk b1 (.cells #[.string fr, .slice fa fn fc] 24) :: S) w) fn ⟨0, by omega, ⟨rfl, rfl, trivial⟩, rfl, hw⟩ ?_
  clear hw
  rintro μ ρ w ⟨k, hk, hρ, ho, hw⟩
  rw [hρ.eq]
  repeat (first | refine byW ?_ | (refine byV ?_; intro w hw))
  refine W_cond rfl (fun h2 => ?_) (fun h2 => ?_)
  · have hkn : k < fn := by have := of_decide_eq_true h2; omega
    obtain ⟨v, hv⟩ := get_lt (l := fs) (k := k) (by omega)
    rw [drop_get hv] at ho
    have hT := pg_rightV (Γ := Γ) (o3 v (List.mem_of_getElem? hv))
    repeat (first | refine byW ?_ | (refine byV ?_; intro w hw))
    refine W_cond rfl (fun h3 => ?_) (fun h3 => ?_)
    · have h3 : rightV v = false := by simpa using h3
      repeat (first | refine byW ?_ | (refine byV ?_; intro w hw))
      refine ⟨_, rfl, ret_b rfl ?_, hw.drop⟩
      unfold rightS
      rw [ho, List.all_cons, h3]; simp
    · have h3 : rightV v = true := by simpa using h3
      repeat (first | refine byW ?_ | (refine byV ?_; intro w hw))
      refine ⟨μ - 1, by omega, k + 1, by omega, ⟨rfl, rfl, trivial⟩, ?_, hw⟩
      rw [ho, List.all_cons, h3]; rfl
  · rw [drop_none fs (by have := of_decide_eq_false h2; omega)] at ho
    repeat (first | refine byW ?_ | (refine byV ?_; intro w hw))
    refine ⟨_, rfl, ret_b rfl ?_, hw.drop⟩
    unfold rightS
    rw [ho]
    show ((nameS fr && decide ((1 : Int) ≤ fn)) && decide ((fn : Int) ≤ 8)) = (((nameS fr && decide (1 ≤ fs.length)) && decide (fs.length ≤ 8)) && true)
    rw [show decide ((1 : Int) ≤ fn) = decide (1 ≤ fs.length) from decide_eq_decide.2 (by omega), show decide ((fn : Int) ≤ 8) = decide (fs.length ≤ 8) from decide_eq_decide.2 (by omega), Bool.and_true]⟩
end Go.Proofs.YtmjkacgmepbljaaGreatDoor
end
/- A fact is taken out of a set. -/
section
open Go Mk
namespace Go.Proofs.YtmjkacgmepbljaaGreatDoor
set_option maxHeartbeats 16000000
attribute [local irreducible] Calls cFact

theorem eqcl_remove {Γ : Gho} {f : FactH} (hf : FOk Γ f) : EqCl Γ 63 f := fun b x Y w hx hw => by
  have hC := pg_cmpF hx hf
  have hz : decide (cFact x.fact f.fact = 0) = decide (x.fact = f.fact) := decide_eq_decide.2 ⟨fun h => cFact_ord.eq0 h, fun h => by rw [h]; exact cFact_ord.refl _⟩
  obtain ⟨fr, fa, fn, fc, fs⟩ := f
  obtain ⟨gr, ga, gn, gc, gs⟩ := x
  refine calls_of_W Tryz.func63 rfl rfl ?_
  repeat (first | refine byW ?_ | (refine byV ?_; intro w hw))
  refine lBox ?_
  intro b2 w hw
  have hw : Wd Γ (.blk b2 (.cells #[.string gr, .slice ga gn gc] 24) :: .blk b (.cells #[.string fr, .slice fa fn fc] 24) :: Y) w := hw
  repeat (first | refine byW ?_ | (refine byV ?_; intro w hw))
  refine lPg (hp := hC) ?_
  intro w hw
  repeat (first | refine byW ?_ | (refine byV ?_; intro w hw))
  exact ⟨_, rfl, ret_b rfl hz, hw.drop⟩
def neF (f : Fact) (x : FactH) : Bool := !decide (x.fact = f)
theorem filt_succ {p : FactH → Bool} {fs : List FactH} {j : Nat} {x : FactH} (h : fs[j]? = some x) : (fs.take (j + 1)).filter p = if p x = true then (fs.take j).filter p ++ [x] else (fs.take j).filter p := by
  rw [List.take_add_one, h, List.filter_append]
  show _ ++ [x].filter p = _
  rw [List.filter_cons]
  split <;> simp
section
variable {Γ : Gho} {S : List Res} {w : World} {b : Nat}
theorem DeleteFunc_any {q : Nat} [FnOk Tryz.prog q] {v : Value} {f : FactH} (hcl : EqCl Γ q f) (fs : List FactH) (hok : FsOk Γ fs) (hl : fs.length ≤ 100000) (hw : Wd Γ (boxF b f :: .own v 24 2 (fs.map cF) :: S) w) :
    Calls Tryz.prog 62 #[v, .func (.func q) #[] #[.pointer (some ⟨b, 0, none⟩)]] w fun e w' => ∃ v', e = .returned v' ∧ Wd Γ (boxF b f :: .own v' 24 2 ((fs.filter (neF f.fact)).map cF) :: S) w' := by
  obtain ⟨a, n, c, rfl, hn, hnc, hc⟩ := hw.own_shape (i := 1) rfl
  have hn0 := hn
  simp only [List.length_map] at hn
  have hr : RdS Γ (.own (.slice a n c) 24 2 (fs.map cF) :: S) (.slice a n c) 2 (fs.map cF) := RdS.ownI (i := 0) rfl hn0 hnc hc
  refine calls_of_W Tryz.func62 rfl rfl ?_
  repeat (first | refine byW ?_ | (refine byV ?_; intro w hw))
  refine lCall (vs := [.slice a n c, .func (.func q) #[] #[.pointer (some ⟨b, 0, none⟩)]]) ?_
  refine (IndexFunc_any hcl fs hok hr hw).mono ?_
  clear hw
  rintro e w ⟨i, rfl, hi, hw⟩
  refine ⟨_, rfl, ?_⟩
  have hfs : ∀ (j : Nat) (x : FactH), fs[j]? = some x → (facts fs)[j]? = some x.fact := fun j x hx => by unfold facts; rw [List.getElem?_map, hx]; rfl
  repeat (first | refine byW ?_ | (refine byV ?_; intro w hw))
  refine W_cond rfl (fun h => ?_) (fun h => ?_)
  · have h : i = -1 := of_decide_eq_true h
    have hF : fs.filter (neF f.fact) = fs := by
      rw [List.filter_eq_self]
      intro x hx
      rcases hi with ⟨-, hi⟩ | ⟨k, hk, -⟩
      · have := hi x.fact (List.mem_map.2 ⟨x, hx, rfl⟩)
        unfold neF; simp [this]
      · omega
    rw [hF]
    repeat (first | refine byW ?_ | (refine byV ?_; intro w hw))
    exact ⟨_, rfl, _, rfl, hw⟩
  have h : ¬ i = -1 := of_decide_eq_false h
  obtain ⟨k, rfl, hk, hno⟩ : ∃ k : Nat, i = k ∧ (facts fs)[k]? = some f.fact ∧ ∀ j x, j < k → (facts fs)[j]? = some x → x ≠ f.fact := by
    rcases hi with ⟨h1, -⟩ | h1
    · exact absurd h1 h
    · exact h1
  have hkn : k < n := by
    have h1 := (List.getElem?_eq_some_iff.1 hk).1
    unfold facts at h1
    rw [List.length_map] at h1
    omega
  have hF0 : (fs.take (k + 1)).filter (neF f.fact) = fs.take k := by
    obtain ⟨x, hx⟩ := get_lt (l := fs) (k := k) (by omega)
    have hxf : x.fact = f.fact := by have := hfs k x hx; rw [hk] at this; exact (Option.some.inj this).symm
    rw [filt_succ hx, if_neg (by unfold neF; simp [hxf])]
    rw [List.filter_eq_self]
    intro y hy
    obtain ⟨j, hj⟩ := List.mem_iff_getElem?.1 hy
    rw [List.getElem?_take] at hj
    split at hj
    · rename_i hjk
      have := hno j y.fact hjk (hfs j y hj)
      unfold neF; simp [this]
    · cases hj
  clear hno hi h
  repeat (first | refine byW ?_ | (refine byV ?_; intro w hw))
  refine W_loop (fun μ ρ w => ∃ (j q2 : Nat) (cur : List FactH), μ + j = n ∧ q2 < j ∧ Has ρ [(0, .slice a n c), (1, .func (.func q) #[] #[.pointer (some ⟨b, 0, none⟩)]), (5, .int .i64 q2), (6, .int .i64 j)] ∧ cur.length = n ∧ cur.take q2 = (fs.take j).filter (neF f.fact) ∧ (∀ i, j ≤ i → cur[i]? = fs[i]?) ∧ Wd Γ (boxF b f :: .own (.slice a n c) 24 2 (cur.map cF) :: S) w) (n - (k + 1)) ⟨k + 1, k, fs, by omega, by omega, ⟨rfl, rfl, rfl, rfl, trivial⟩, hn.symm, hF0.symm, fun i _ => rfl, hw⟩ ?_
  clear hw hF0 hr
  rintro μ ρ w ⟨j, q2, cur, hj, hqj, hρ, hcl2, hcur, hsame, hw⟩
  rw [hρ.eq]
  repeat (first | refine byW ?_ | (refine byV ?_; intro w hw))
  refine W_cond rfl (fun h1 => ?_) (fun h1 => ?_)
  · have hjn : j < n := by have := of_decide_eq_true h1; omega
    obtain ⟨x, hx⟩ := get_lt (l := fs) (k := j) (by omega)
    have hcx : cur[j]? = some x := by rw [hsame j (Nat.le_refl _)]; exact hx
    have hfx := (hok x (List.mem_of_getElem? hx)).1
    have hsucc := filt_succ (p := neF f.fact) hx
    repeat (first | refine byW ?_ | (refine byV ?_; intro w hw))
    refine lAlloc ?_
    intro b7 w hw
    refine lStore ?_
    intro w hw
    have hw : Wd Γ (boxF b7 x :: boxF b f :: .own (.slice a n c) 24 2 (cur.map cF) :: S) w := hw
    repeat (first | refine byW ?_ | (refine byV ?_; intro w hw))
    refine lCallv (fst := []) (cap := [.pointer (some ⟨b, 0, none⟩)]) (vs := [.agg (cF x).toArray]) ?_
    refine (hcl b x (boxF b7 x :: .own (.slice a n c) 24 2 (cur.map cF) :: S) w hfx (hw.ps [1])).mono ?_
    clear hw
    rintro e w ⟨rfl, hw⟩
    refine ⟨_, rfl, ?_⟩
    have hw : Wd Γ (boxF b7 x :: boxF b f :: .own (.slice a n c) 24 2 (cur.map cF) :: S) w := hw.ps [1]
    repeat (first | refine byW ?_ | (refine byV ?_; intro w hw))
    refine W_cond rfl (fun h2 => ?_) (fun h2 => ?_)
    · have h2 : neF f.fact x = true := h2
      rw [if_pos h2] at hsucc
      repeat (first | refine byW ?_ | (refine byV ?_; intro w hw))
      refine lStoreE (i := 2) ?_
      intro w hw
      have hw : Wd Γ (boxF b7 x :: boxF b f :: .own (.slice a n c) 24 2 ((cur.map cF).set q2 (cF x)) :: S) w := hw
      rw [← List.map_set] at hw
      repeat (first | refine byW ?_ | (refine byV ?_; intro w hw))
      refine ⟨n - (j + 1), by omega, j + 1, q2 + 1, cur.set q2 x, by omega, by omega, ⟨rfl, rfl, rfl, rfl, trivial⟩, by rw [List.length_set]; exact hcl2, ?_, fun i hi => ?_, hw.drop⟩
      · rw [hsucc, ← hcur, List.take_add_one, List.take_set_of_le (by omega), List.getElem?_set_self (by omega)]; rfl
      · rw [List.getElem?_set_ne (by omega)]; exact hsame i (by omega)
    · have h2 : ¬ neF f.fact x = true := by have h2 : neF f.fact x = false := h2; rw [h2]; decide
      rw [if_neg h2] at hsucc
      repeat (first | refine byW ?_ | (refine byV ?_; intro w hw))
      exact ⟨n - (j + 1), by omega, j + 1, q2, cur, by omega, by omega, ⟨rfl, rfl, rfl, rfl, trivial⟩, hcl2, by rw [hsucc]; exact hcur, fun i hi => hsame i (by omega), hw.drop⟩
  · have hjn : j = n ∨ n < j := by have := of_decide_eq_false h1; omega
    have hfn : fs.take j = fs := List.take_of_length_le (by omega)
    rw [hfn] at hcur
    have hqn : q2 ≤ n := by omega
    have hw := Wd.own_take (i := 1) (m := q2) hw rfl hqn
    rw [← List.map_take, hcur] at hw
    have hw : Wd Γ (boxF b f :: .own (.slice a q2 c) 24 2 ((fs.filter (neF f.fact)).map cF) :: S) w := hw
    repeat (first | refine byW ?_ | (refine byV ?_; intro w hw))
    refine lClear (i := 1) ?_
    intro w hw
    repeat (first | refine byW ?_ | (refine byV ?_; intro w hw))
    exact ⟨_, rfl, _, rfl, hw⟩
def remS (l : List Fact) (f : Fact) : List Fact × Bool := ((setS l).filter fun x => !decide (x = f), decide (((setS l).filter fun x => !decide (x = f)).length < (setS l).length))
theorem facts_filt {gs : List FactH} {f : Fact} : facts (gs.filter (neF f)) = (facts gs).filter fun x => !decide (x = f) := by
  unfold facts
  rw [List.filter_map]; rfl
theorem Remove_any {v : Value} {f : FactH} (fs : List FactH) (hok : FsOk Γ fs) (hl : fs.length ≤ 50000) (hf : FOk Γ f) (hr : RdS Γ S v 2 (fs.map cF)) (hw : Wd Γ S w) :
    Calls Tryz.prog 21 #[v, .agg (cF f).toArray] w fun e w' => ∃ Γ' v' gs, Γ.le Γ' ∧ e = .returned (.tuple #[v', .bool (remS (facts fs) f.fact).2]) ∧ facts gs = (remS (facts fs) f.fact).1 ∧ RL Γ' v' gs ∧ Wd Γ' S w' := by
  refine calls_of_W Tryz.func21 rfl rfl ?_
  repeat (first | refine byW ?_ | (refine byV ?_; intro w hw))
  refine lBox ?_
  intro b w hw
  have hw : Wd Γ (boxF b f :: S) w := hw
  repeat (first | refine byW ?_ | (refine byV ?_; intro w hw))
  refine lCall (vs := [v]) ?_
  refine (set_any fs hok (by omega) hr.cons hw).mono ?_
  clear hw
  rintro e w ⟨Γ1, v1, gs, hle, rfl, hgs, hokg, hw⟩
  refine ⟨_, rfl, ?_⟩
  have hgl : gs.length = (setS (facts fs)).length := by rw [← hgs]; unfold facts; rw [List.length_map]
  have hsl : (setS (facts fs)).length ≤ fs.length := by have := setA_len (c := cFact) (db := facts fs); unfold facts at this; rw [List.length_map] at this; exact this
  obtain ⟨a1, n1, c1, rfl, hn1, hnc1, hc1⟩ := hw.own_shape (i := 0) rfl
  simp only [List.length_map] at hn1
  repeat (first | refine byW ?_ | (refine byV ?_; intro w hw))
  refine lCall (vs := [.slice a1 n1 c1, .func (.func 63) #[] #[.pointer (some ⟨b, 0, none⟩)]]) ?_
  refine (DeleteFunc_any (eqcl_remove (hf.mono hle)) gs hokg (by omega) (hw.ps [1])).mono ?_
  clear hw
  rintro e w ⟨v2, rfl, hw⟩
  refine ⟨_, rfl, ?_⟩
  obtain ⟨a2, n2, c2, rfl, hn2, hnc2, hc2⟩ := hw.own_shape (i := 1) rfl
  simp only [List.length_map] at hn2
  obtain ⟨Γ2, l2, r2, hw⟩ := Wd.freeze (hw.ps [1])
  have hfl : facts (gs.filter (neF f.fact)) = (remS (facts fs) f.fact).1 := by rw [facts_filt, hgs]; rfl
  have hnl : n2 = (remS (facts fs) f.fact).1.length := by rw [← hfl]; unfold facts; rw [List.length_map]; exact hn2
  have hR : (remS (facts fs) f.fact).2 = decide ((n2 : Int) < (n1 : Int)) := by
    unfold remS
    refine decide_eq_decide.2 ?_
    unfold remS at hnl
    dsimp only at hnl ⊢
    omega
  rw [hR]
  repeat (first | refine byW ?_ | (refine byV ?_; intro w hw))
  refine ⟨_, rfl, Γ2, _, gs.filter (neF f.fact), hle.trans l2, rfl, hfl, ⟨r2, fun x hx => ⟨(hokg x (List.mem_filter.1 hx).1).1.mono l2, (hokg x (List.mem_filter.1 hx).1).2⟩⟩, ?_⟩
  exact hw.drop
end
end Go.Proofs.YtmjkacgmepbljaaGreatDoor
end
/- FactLaws: the laws of sets, walked. -/
section
open Go Mk
namespace Go.Proofs.YtmjkacgmepbljaaGreatDoor
set_option maxHeartbeats 16000000
attribute [local irreducible] Calls cFact

theorem insS_right {l : List Fact} {f : Fact} (hl : l.length < 8192) : insS l f = if rightS f = true then (setS (l ++ [f]), 0) else ([], 63) := by
  have := setA_len (c := cFact) (db := l ++ [f])
  have h : (setS (l ++ [f])).length ≤ 8192 := by unfold setS; simp at this; omega
  unfold insS
  rw [if_pos h]
theorem setS_mem {l : List Fact} {x : Fact} : x ∈ setS l ↔ x ∈ l := setA_mem cFact_ord
theorem setS_len {l : List Fact} : (setS l).length ≤ l.length := setA_len
theorem filt_ne_len {α : Type} [DecidableEq α] {f : α} : ∀ {l : List α}, l.Nodup → f ∈ l → (l.filter fun x => !decide (x = f)).length + 1 = l.length
  | [], _, h => by cases h
  | y :: l, hn, h => by
    have hn' := List.nodup_cons.1 hn
    rw [List.filter_cons]
    by_cases e : y = f
    · subst e
      rw [if_neg (by simp), List.filter_eq_self.2 (fun x hx => by
        have : x ≠ y := fun q => hn'.1 (q ▸ hx)
        simp [this])]
      rfl
    · have hm : f ∈ l := by
        rcases List.mem_cons.1 h with q | q
        · exact absurd q.symm e
        · exact q
      rw [if_pos (by simp [e])]
      have := filt_ne_len hn'.2 hm
      simp only [List.length_cons]; omega
theorem set_comm {D : List Fact} {f g : Fact} : setS (setS (D ++ [f]) ++ [g]) = setS (setS (D ++ [g]) ++ [f]) := setA_congr cFact_ord fun x => by
  simp only [List.mem_append, List.mem_singleton, setS_mem]
  constructor <;> rintro ((h | h) | h) <;> simp [h]
theorem set_again {D : List Fact} {f g : Fact} : setS (setS (setS (D ++ [f]) ++ [g]) ++ [f]) = setS (setS (D ++ [f]) ++ [g]) := by
  have h1 : setS (setS (setS (D ++ [f]) ++ [g]) ++ [f]) = setS (setS (setS (D ++ [f]) ++ [g])) := setA_congr cFact_ord fun x => by
    simp only [List.mem_append, List.mem_singleton, setS_mem]
    constructor
    · rintro (h | h)
      · exact h
      · exact .inl (.inr h)
    · exact fun h => .inl h
  rw [h1]
  exact setA_idem cFact_ord _
theorem set_less {D : List Fact} {f : Fact} (h : f ∈ D) : remS D f = ((setS D).filter fun x => !decide (x = f), true) ∧ (remS D f).1.length + 1 = (setS D).length := by
  have h1 := filt_ne_len (asc_nodup cFact_ord (setA_of cFact_ord D).asc) (setS_mem.2 h)
  refine ⟨?_, h1⟩
  unfold remS
  rw [Prod.mk.injEq]
  refine ⟨rfl, decide_eq_true ?_⟩
  exact Nat.lt_of_succ_le (Nat.le_of_eq h1)
theorem pg_few {Γ : Gho} {v : Value} (fs : List FactH) (hok : ∀ f ∈ fs, FOk Γ f) (hr : RepS Γ v 2 (fs.map cF)) : PG Tryz.prog Γ 8 [v] (.bool (fewB (facts fs))) := ⟨fun S w hw => Few_any fs hok hr.rdS hw⟩
set_option maxRecDepth 8000 in
theorem FactLaws_any {Γ : Gho} {S : List Res} {w : World} [hT : TabG Γ] {v : Value} (db : List FactH) (f g : FactH) (hr : RepS Γ v 2 (db.map cF)) (hi : FsIn Γ db) (hi2 : FsIn Γ [f, g]) (hw : Wd Γ S w) :
    Calls Tryz.prog 6 #[v, .agg (cF f).toArray, .agg (cF g).toArray] w fun e w' => ∃ Γ', Γ.le Γ' ∧ e = .returned (.bool true) ∧ Wd Γ' S w' := by
  have hFew := pg_few db (fun x hx => (hi x hx).1) hr
  obtain ⟨a, n, c, rfl, hn, hnc, hc⟩ := hr.shape
  simp only [List.length_map] at hn
  have hf := (hi2 f (by simp)).1
  have hg := (hi2 g (by simp)).1
  refine calls_of_W Tryz.func6 rfl rfl ?_
  repeat (first | refine byW ?_ | (refine byV ?_; intro w hw))
  refine lBox ?_
  intro b4 w hw
  refine lBox ?_
  intro b5 w hw
  have hw : Wd Γ (boxF b5 g :: boxF b4 f :: S) w := hw
  cases hD : fewB (facts db) with
  | false =>
    rw [hD] at hFew
    repeat (first | (first | refine W_seq ?_ | refine W_block ?_ | refine W_region ?_ | refine W_skip ?_ | refine W_ret ?_ | refine W_exit ?_) | ((first | apply L_bin | apply L_notop); first | (refine lT ?_ ?_; (first | exact rfl | exact decide_eq_true rfl | (simp; done))) | (refine lF ?_ ?_; (first | exact rfl | exact decide_eq_true rfl | (simp; done)))) | (first | refine L_nil ?_ | (apply L_plain; first | (apply L_go; first | refine lP ?_ | (refine lPg ?_; intro w hw)) | (apply L_mf; refine lMakeFunc ?_) | refine lY ?_) | (apply L_guarded; first | refine lGT ?_ (hct := rfl) | refine lGF ?_ (hct := rfl) | (apply L_go; first | refine lPG ?_ | (refine lPgG ?_; intro w hw)) | refine lG ?_)) | (refine lAlloc ?_; intro _ w hw) | (refine lBox ?_; intro _ w hw) | (refine lStore ?_; intro w hw))
    refine W_cond_true rfl ?_
    repeat (first | refine byW ?_ | (refine byV ?_; intro w hw))
    exact ⟨_, rfl, Γ, Gho.le.refl _, rfl, hw.drop.drop⟩
  | true =>
  rw [hD] at hFew
  repeat (first | (first | refine W_seq ?_ | refine W_block ?_ | refine W_region ?_ | refine W_skip ?_ | refine W_ret ?_ | refine W_exit ?_) | ((first | apply L_bin | apply L_notop); first | (refine lT ?_ ?_; (first | exact rfl | exact decide_eq_true rfl | (simp; done))) | (refine lF ?_ ?_; (first | exact rfl | exact decide_eq_true rfl | (simp; done)))) | (first | refine L_nil ?_ | (apply L_plain; first | (apply L_go; first | refine lP ?_ | (refine lPg ?_; intro w hw)) | (apply L_mf; refine lMakeFunc ?_) | refine lY ?_) | (apply L_guarded; first | refine lGT ?_ (hct := rfl) | refine lGF ?_ (hct := rfl) | (apply L_go; first | refine lPG ?_ | (refine lPgG ?_; intro w hw)) | refine lG ?_)) | (refine lAlloc ?_; intro _ w hw) | (refine lBox ?_; intro _ w hw) | (refine lStore ?_; intro w hw))
  refine lBuildSlice [cF f, cF g] ?_
  intro a23 w hw
  refine L_guarded (lGT ?_ (hct := rfl))
  refine lCall (vs := [.slice (some a23) 2 2]) ?_
  refine (Few_any [f, g] (fun x hx => (hi2 x hx).1) (RdS.own (i := 0) hw rfl) hw).mono ?_
  clear hw
  rintro e w ⟨rfl, hw⟩
  refine ⟨_, rfl, ?_⟩
  have hw : Wd Γ (boxF b5 g :: boxF b4 f :: S) w := hw.drop
  cases hE : fewB (facts [f, g]) with
  | false =>
    repeat (first | (first | refine W_seq ?_ | refine W_block ?_ | refine W_region ?_ | refine W_skip ?_ | refine W_ret ?_ | refine W_exit ?_) | ((first | apply L_bin | apply L_notop); first | (refine lT ?_ ?_; (first | exact rfl | exact decide_eq_true rfl | (simp; done))) | (refine lF ?_ ?_; (first | exact rfl | exact decide_eq_true rfl | (simp; done)))) | (first | refine L_nil ?_ | (apply L_plain; first | (apply L_go; first | refine lP ?_ | (refine lPg ?_; intro w hw)) | (apply L_mf; refine lMakeFunc ?_) | refine lY ?_) | (apply L_guarded; first | refine lGT ?_ (hct := rfl) | refine lGF ?_ (hct := rfl) | (apply L_go; first | refine lPG ?_ | (refine lPgG ?_; intro w hw)) | refine lG ?_)) | (refine lAlloc ?_; intro _ w hw) | (refine lBox ?_; intro _ w hw) | (refine lStore ?_; intro w hw))
    refine W_cond_true rfl ?_
    repeat (first | refine byW ?_ | (refine byV ?_; intro w hw))
    exact ⟨_, rfl, Γ, Gho.le.refl _, rfl, hw.drop.drop⟩
  | true =>
  repeat (first | (first | refine W_seq ?_ | refine W_block ?_ | refine W_region ?_ | refine W_skip ?_ | refine W_ret ?_ | refine W_exit ?_) | ((first | apply L_bin | apply L_notop); first | (refine lT ?_ ?_; (first | exact rfl | exact decide_eq_true rfl | (simp; done))) | (refine lF ?_ ?_; (first | exact rfl | exact decide_eq_true rfl | (simp; done)))) | (first | refine L_nil ?_ | (apply L_plain; first | (apply L_go; first | refine lP ?_ | (refine lPg ?_; intro w hw)) | (apply L_mf; refine lMakeFunc ?_) | refine lY ?_) | (apply L_guarded; first | refine lGT ?_ (hct := rfl) | refine lGF ?_ (hct := rfl) | (apply L_go; first | refine lPG ?_ | (refine lPgG ?_; intro w hw)) | refine lG ?_)) | (refine lAlloc ?_; intro _ w hw) | (refine lBox ?_; intro _ w hw) | (refine lStore ?_; intro w hw))
  refine W_cond_false rfl ?_
  obtain ⟨hdl, hdb⟩ := hi.ok hD
  obtain ⟨-, hfg⟩ := hi2.ok hE
  have hff := (hfg f (by simp)).2
  have hgg := (hfg g (by simp)).2
  have hDl : (facts db).length = db.length := List.length_map ..
  repeat (first | refine byW ?_ | (refine byV ?_; intro w hw))
  refine lCall (vs := [.slice a n c, .agg (cF f).toArray]) ?_
  refine (Insert_any db hdb (by omega) hf hff hr.rdS hw).mono ?_
  clear hw
  rintro e w ⟨Γ1, va, la, le1, rfl, hA, hLA, hw⟩
  refine ⟨_, rfl, ?_⟩
  obtain ⟨e1, he1⟩ : ∃ x, (insS (facts db) f.fact).2 = x := ⟨_, rfl⟩
  rw [he1]
  rw [insS_right (by omega)] at hA he1
  repeat (first | refine byW ?_ | (refine byV ?_; intro w hw))
  refine lCall (vs := [.slice a n c, .agg (cF g).toArray]) ?_
  refine (Insert_any db (hdb.mono le1) (by omega) (hg.mono le1) hgg (hr.mono le1).rdS hw).mono ?_
  clear hw
  rintro e w ⟨Γ2, vb, lb, le2, rfl, hB, hLB, hw⟩
  refine ⟨_, rfl, ?_⟩
  obtain ⟨e2, he2⟩ : ∃ x, (insS (facts db) g.fact).2 = x := ⟨_, rfl⟩
  rw [he2]
  rw [insS_right (by omega)] at hB he2
  replace hLA := hLA.mono le2
  replace le1 := le1.trans le2
  clear le2
  haveI hT2 : TabG Γ2 := hT.mono le1
  have hRf := pg_Right (hf.mono le1) hff
  have hRg := pg_Right (hg.mono le1) hgg
  cases hrf : rightS f.fact with
  | false =>
    rw [hrf] at hRf he1
    have he1 : e1 = 63 := he1.symm
    rw [he1]
    cases hrg : rightS g.fact with
    | false =>
      rw [hrg] at hRg he2
      have he2 : e2 = 63 := he2.symm
      rw [he2]
      repeat (first | (first | refine W_seq ?_ | refine W_block ?_ | refine W_region ?_ | refine W_skip ?_ | refine W_ret ?_ | refine W_exit ?_) | ((first | apply L_bin | apply L_notop); first | (refine lT ?_ ?_; (first | exact rfl | exact decide_eq_true rfl | (simp; done))) | (refine lF ?_ ?_; (first | exact rfl | exact decide_eq_true rfl | (simp; done)))) | (first | refine L_nil ?_ | (apply L_plain; first | (apply L_go; first | refine lP ?_ | (refine lPg ?_; intro w hw)) | (apply L_mf; refine lMakeFunc ?_) | refine lY ?_) | (apply L_guarded; first | refine lGT ?_ (hct := rfl) | refine lGF ?_ (hct := rfl) | (apply L_go; first | refine lPG ?_ | (refine lPgG ?_; intro w hw)) | refine lG ?_)) | (refine lAlloc ?_; intro _ w hw) | (refine lBox ?_; intro _ w hw) | (refine lStore ?_; intro w hw))
      refine W_cond_true rfl ?_
      repeat (first | (first | refine W_seq ?_ | refine W_block ?_ | refine W_region ?_ | refine W_skip ?_ | refine W_ret ?_ | refine W_exit ?_) | ((first | apply L_bin | apply L_notop); first | (refine lT ?_ ?_; (first | exact rfl | exact decide_eq_true rfl | (simp; done))) | (refine lF ?_ ?_; (first | exact rfl | exact decide_eq_true rfl | (simp; done)))) | (first | refine L_nil ?_ | (apply L_plain; first | (apply L_go; first | refine lP ?_ | (refine lPg ?_; intro w hw)) | (apply L_mf; refine lMakeFunc ?_) | refine lY ?_) | (apply L_guarded; first | refine lGT ?_ (hct := rfl) | refine lGF ?_ (hct := rfl) | (apply L_go; first | refine lPG ?_ | (refine lPgG ?_; intro w hw)) | refine lG ?_)) | (refine lAlloc ?_; intro _ w hw) | (refine lBox ?_; intro _ w hw) | (refine lStore ?_; intro w hw))
      exact ⟨_, rfl, Γ2, le1, rfl, hw.drop.drop⟩
    | true =>
      rw [hrg] at hRg he2
      have he2 : e2 = 0 := he2.symm
      rw [he2]
      repeat (first | (first | refine W_seq ?_ | refine W_block ?_ | refine W_region ?_ | refine W_skip ?_ | refine W_ret ?_ | refine W_exit ?_) | ((first | apply L_bin | apply L_notop); first | (refine lT ?_ ?_; (first | exact rfl | exact decide_eq_true rfl | (simp; done))) | (refine lF ?_ ?_; (first | exact rfl | exact decide_eq_true rfl | (simp; done)))) | (first | refine L_nil ?_ | (apply L_plain; first | (apply L_go; first | refine lP ?_ | (refine lPg ?_; intro w hw)) | (apply L_mf; refine lMakeFunc ?_) | refine lY ?_) | (apply L_guarded; first | refine lGT ?_ (hct := rfl) | refine lGF ?_ (hct := rfl) | (apply L_go; first | refine lPG ?_ | (refine lPgG ?_; intro w hw)) | refine lG ?_)) | (refine lAlloc ?_; intro _ w hw) | (refine lBox ?_; intro _ w hw) | (refine lStore ?_; intro w hw))
      refine W_cond_true rfl ?_
      repeat (first | (first | refine W_seq ?_ | refine W_block ?_ | refine W_region ?_ | refine W_skip ?_ | refine W_ret ?_ | refine W_exit ?_) | ((first | apply L_bin | apply L_notop); first | (refine lT ?_ ?_; (first | exact rfl | exact decide_eq_true rfl | (simp; done))) | (refine lF ?_ ?_; (first | exact rfl | exact decide_eq_true rfl | (simp; done)))) | (first | refine L_nil ?_ | (apply L_plain; first | (apply L_go; first | refine lP ?_ | (refine lPg ?_; intro w hw)) | (apply L_mf; refine lMakeFunc ?_) | refine lY ?_) | (apply L_guarded; first | refine lGT ?_ (hct := rfl) | refine lGF ?_ (hct := rfl) | (apply L_go; first | refine lPG ?_ | (refine lPgG ?_; intro w hw)) | refine lG ?_)) | (refine lAlloc ?_; intro _ w hw) | (refine lBox ?_; intro _ w hw) | (refine lStore ?_; intro w hw))
      exact ⟨_, rfl, Γ2, le1, rfl, hw.drop.drop⟩
  | true =>
  rw [hrf] at hRf he1 hA
  have he1 : e1 = 0 := he1.symm
  rw [he1]
  cases hrg : rightS g.fact with
  | false =>
    rw [hrg] at hRg he2
    have he2 : e2 = 63 := he2.symm
    rw [he2]
    repeat (first | (first | refine W_seq ?_ | refine W_block ?_ | refine W_region ?_ | refine W_skip ?_ | refine W_ret ?_ | refine W_exit ?_) | ((first | apply L_bin | apply L_notop); first | (refine lT ?_ ?_; (first | exact rfl | exact decide_eq_true rfl | (simp; done))) | (refine lF ?_ ?_; (first | exact rfl | exact decide_eq_true rfl | (simp; done)))) | (first | refine L_nil ?_ | (apply L_plain; first | (apply L_go; first | refine lP ?_ | (refine lPg ?_; intro w hw)) | (apply L_mf; refine lMakeFunc ?_) | refine lY ?_) | (apply L_guarded; first | refine lGT ?_ (hct := rfl) | refine lGF ?_ (hct := rfl) | (apply L_go; first | refine lPG ?_ | (refine lPgG ?_; intro w hw)) | refine lG ?_)) | (refine lAlloc ?_; intro _ w hw) | (refine lBox ?_; intro _ w hw) | (refine lStore ?_; intro w hw))
    refine W_cond_true rfl ?_
    repeat (first | (first | refine W_seq ?_ | refine W_block ?_ | refine W_region ?_ | refine W_skip ?_ | refine W_ret ?_ | refine W_exit ?_) | ((first | apply L_bin | apply L_notop); first | (refine lT ?_ ?_; (first | exact rfl | exact decide_eq_true rfl | (simp; done))) | (refine lF ?_ ?_; (first | exact rfl | exact decide_eq_true rfl | (simp; done)))) | (first | refine L_nil ?_ | (apply L_plain; first | (apply L_go; first | refine lP ?_ | (refine lPg ?_; intro w hw)) | (apply L_mf; refine lMakeFunc ?_) | refine lY ?_) | (apply L_guarded; first | refine lGT ?_ (hct := rfl) | refine lGF ?_ (hct := rfl) | (apply L_go; first | refine lPG ?_ | (refine lPgG ?_; intro w hw)) | refine lG ?_)) | (refine lAlloc ?_; intro _ w hw) | (refine lBox ?_; intro _ w hw) | (refine lStore ?_; intro w hw))
    exact ⟨_, rfl, Γ2, le1, rfl, hw.drop.drop⟩
  | true =>
  rw [hrg] at hRg he2 hB
  have he2 : e2 = 0 := he2.symm
  rw [he2]
  repeat (first | (first | refine W_seq ?_ | refine W_block ?_ | refine W_region ?_ | refine W_skip ?_ | refine W_ret ?_ | refine W_exit ?_) | ((first | apply L_bin | apply L_notop); first | (refine lT ?_ ?_; (first | exact rfl | exact decide_eq_true rfl | (simp; done))) | (refine lF ?_ ?_; (first | exact rfl | exact decide_eq_true rfl | (simp; done)))) | (first | refine L_nil ?_ | (apply L_plain; first | (apply L_go; first | refine lP ?_ | (refine lPg ?_; intro w hw)) | (apply L_mf; refine lMakeFunc ?_) | refine lY ?_) | (apply L_guarded; first | refine lGT ?_ (hct := rfl) | refine lGF ?_ (hct := rfl) | (apply L_go; first | refine lPG ?_ | (refine lPgG ?_; intro w hw)) | refine lG ?_)) | (refine lAlloc ?_; intro _ w hw) | (refine lBox ?_; intro _ w hw) | (refine lStore ?_; intro w hw))
  refine W_cond_false rfl ?_
  clear he1 he2 hRf hRg
  have hA : facts la = setS (facts db ++ [f.fact]) := hA
  have hB : facts lb = setS (facts db ++ [g.fact]) := hB
  have hAl : la.length = (setS (facts db ++ [f.fact])).length := by rw [← hA]; unfold facts; rw [List.length_map]
  have hBl : lb.length = (setS (facts db ++ [g.fact])).length := by rw [← hB]; unfold facts; rw [List.length_map]
  have hs1 := setS_len (l := facts db ++ [f.fact])
  have hs2 := setS_len (l := facts db ++ [g.fact])
  rw [List.length_append, List.length_singleton] at hs1 hs2
  obtain ⟨aa, ca, hva, ka1, ka2⟩ := hLA.len
  obtain ⟨ab, cb, hvb, kb1, kb2⟩ := hLB.len
  rw [hva, hvb]
  rw [hva] at hLA
  rw [hvb] at hLB
  clear hva hvb
  have hAf : facts la ++ [g.fact] = setS (facts db ++ [f.fact]) ++ [g.fact] := by rw [hA]
  have hAll : (facts la).length = la.length := List.length_map ..
  have hBll : (facts lb).length = lb.length := List.length_map ..
  repeat (first | refine byW ?_ | (refine byV ?_; intro w hw))
  refine lCall (vs := [.slice aa la.length ca, .agg (cF g).toArray]) ?_
  refine (Insert_any la hLA.ok (by omega) (hg.mono le1) hgg hLA.rep.rdS hw).mono ?_
  clear hw
  rintro e w ⟨Γ3, vc, lc, le3, rfl, hC, hLC, hw⟩
  refine ⟨_, rfl, ?_⟩
  rw [insS_right (by omega), if_pos hrg] at hC ⊢
  have hC : facts lc = setS (setS (facts db ++ [f.fact]) ++ [g.fact]) := by rw [hC, hA]
  have hCl : lc.length = (setS (setS (facts db ++ [f.fact]) ++ [g.fact])).length := by rw [← hC]; unfold facts; rw [List.length_map]
  have hs3 := setS_len (l := setS (facts db ++ [f.fact]) ++ [g.fact])
  rw [List.length_append, List.length_singleton] at hs3
  obtain ⟨ac, cc, hvc, kc1, kc2⟩ := hLC.len
  rw [hvc]
  rw [hvc] at hLC
  clear hvc
  replace hLB := hLB.mono le3
  replace le1 := le1.trans le3
  clear le3
  repeat (first | refine byW ?_ | (refine byV ?_; intro w hw))
  refine lCall (vs := [.slice ab lb.length cb, .agg (cF f).toArray]) ?_
  refine (Insert_any lb hLB.ok (by omega) (hf.mono le1) hff hLB.rep.rdS hw).mono ?_
  clear hw
  rintro e w ⟨Γ4, vd, ld, le3, rfl, hDd, hLD, hw⟩
  refine ⟨_, rfl, ?_⟩
  rw [insS_right (by omega), if_pos hrf] at hDd ⊢
  have hDd : facts ld = setS (setS (facts db ++ [f.fact]) ++ [g.fact]) := by rw [hDd, hB, set_comm]
  obtain ⟨ad, cd, hvd, kd1, kd2⟩ := hLD.len
  rw [hvd]
  rw [hvd] at hLD
  clear hvd
  replace hLC := hLC.mono le3
  replace le1 := le1.trans le3
  clear le3
  have hSa := pg_same hLC hLD
  rw [hC, hDd, decide_eq_true rfl] at hSa
  have hCf := pg_contains hLC (hf.mono le1)
  rw [hC, decide_eq_true (by simp [setS_mem])] at hCf
  have hCg := pg_contains hLC (hg.mono le1)
  rw [hC, decide_eq_true (by simp [setS_mem])] at hCg
  repeat (first | (first | refine W_seq ?_ | refine W_block ?_ | refine W_region ?_ | refine W_skip ?_ | refine W_ret ?_ | refine W_exit ?_) | ((first | apply L_bin | apply L_notop); first | (refine lT ?_ ?_; (first | exact rfl | exact decide_eq_true rfl | (simp; done))) | (refine lF ?_ ?_; (first | exact rfl | exact decide_eq_true rfl | (simp; done)))) | (first | refine L_nil ?_ | (apply L_plain; first | (apply L_go; first | refine lP ?_ | (refine lPg ?_; intro w hw)) | (apply L_mf; refine lMakeFunc ?_) | refine lY ?_) | (apply L_guarded; first | refine lGT ?_ (hct := rfl) | refine lGF ?_ (hct := rfl) | (apply L_go; first | refine lPG ?_ | (refine lPgG ?_; intro w hw)) | refine lG ?_)) | (refine lAlloc ?_; intro _ w hw) | (refine lBox ?_; intro _ w hw) | (refine lStore ?_; intro w hw))
  refine W_cond_false rfl ?_
  clear hSa hCf hCg
  have hCll : (facts lc).length = lc.length := List.length_map ..
  repeat (first | refine byW ?_ | (refine byV ?_; intro w hw))
  refine lCall (vs := [.slice ac lc.length cc, .agg (cF f).toArray]) ?_
  refine (Insert_any lc hLC.ok (by omega) (hf.mono le1) hff hLC.rep.rdS hw).mono ?_
  clear hw
  rintro e w ⟨Γ5, vk, lk, le3, rfl, hK, hLK, hw⟩
  refine ⟨_, rfl, ?_⟩
  rw [insS_right (by omega), if_pos hrf] at hK ⊢
  have hK : facts lk = setS (setS (facts db ++ [f.fact]) ++ [g.fact]) := by rw [hK, hC]; exact set_again
  obtain ⟨ak, ck, hvk, kk1, kk2⟩ := hLK.len
  rw [hvk]
  rw [hvk] at hLK
  clear hvk
  replace hLC := hLC.mono le3
  replace le1 := le1.trans le3
  clear le3
  repeat (first | refine byW ?_ | (refine byV ?_; intro w hw))
  refine lCall (vs := [.slice ac lc.length cc, .agg (cF f).toArray]) ?_
  refine (Remove_any lc hLC.ok (by omega) (hf.mono le1) hLC.rep.rdS hw).mono ?_
  clear hw
  rintro e w ⟨Γ6, vl, ll, le3, rfl, hL, hLL, hw⟩
  refine ⟨_, rfl, ?_⟩
  have hmf : f.fact ∈ facts lc := by rw [hC]; simp [setS_mem]
  obtain ⟨hm1, hm2⟩ := set_less hmf
  have hcs : setS (facts lc) = facts lc := by rw [hC]; exact setA_idem cFact_ord _
  rw [hm1] at hL hm2 ⊢
  rw [hcs] at hL hm2
  have hL : facts ll = (facts lc).filter fun x => !decide (x = f.fact) := hL
  have hLl : ll.length + 1 = lc.length := by
    rw [← hCll, ← hm2]
    show ll.length + 1 = ((facts lc).filter fun x => !decide (x = f.fact)).length + 1
    rw [← hL]; unfold facts; rw [List.length_map]
  clear hm1 hm2
  obtain ⟨al, cl, hvl, kl1, kl2⟩ := hLL.len
  rw [hvl]
  rw [hvl] at hLL
  clear hvl
  replace hLC := hLC.mono le3
  replace hLK := hLK.mono le3
  replace le1 := le1.trans le3
  clear le3
  haveI hT6 : TabG Γ6 := hT.mono le1
  have hSa := pg_same hLK hLC
  rw [hC, hK, decide_eq_true rfl] at hSa
  have hCf := pg_contains hLL (hf.mono le1)
  rw [hL, decide_eq_false (by simp [List.mem_filter])] at hCf
  repeat (first | refine byW ?_ | (refine byV ?_; intro w hw))
  refine W_cond rfl (fun h1 => ?_) (fun _ => ?_)
  · exfalso
    have h1 : (((decide ((0 : Int) ≠ 0) || !true) || !true) || false || decide ((ll.length : Int) ≠ lc.length - 1)) = true := h1
    rw [show decide ((ll.length : Int) ≠ lc.length - 1) = false from decide_eq_false (by omega)] at h1
    cases h1
  have hr := hr.mono le1
  have hdb := hdb.mono le1
  have hfm := hf.mono le1
  repeat (first | refine byW ?_ | (refine byV ?_; intro w hw))
  refine W_loop (fun μ ρ w => ∃ (k : Nat), μ + k = n ∧ Has ρ [(0, .slice a n c), (4, .pointer (some ⟨b4, 0, none⟩)), (11, .slice ac lc.length cc), (14, .slice al ll.length cl), (16, .int .i64 k)] ∧ Wd Γ6 (boxF b5 g :: boxF b4 f :: S) w) n ⟨0, by omega, ⟨rfl, rfl, rfl, rfl, rfl, trivial⟩, hw⟩ ?_
  clear hw hSa hCf
  rintro μ ρ w ⟨k, hk, hρ, hw⟩
  rw [hρ.eq]
  repeat (first | refine byW ?_ | (refine byV ?_; intro w hw))
  refine W_cond rfl (fun h2 => ?_) (fun h2 => ?_)
  · have hkn : k < n := by have := of_decide_eq_true h2; omega
    obtain ⟨x, hx⟩ := get_lt (l := db) (k := k) (by omega)
    have hxf : x.fact ∈ facts db := List.mem_map.2 ⟨x, List.mem_of_getElem? hx, rfl⟩
    have hxo := (hdb x (List.mem_of_getElem? hx)).1
    have hm : x.fact ∈ facts lc := by rw [hC]; simp [setS_mem, hxf]
    have hC1 := pg_contains hLC hxo
    rw [decide_eq_true hm] at hC1
    have hC2 := pg_contains hLL hxo
    have hd : decide (x.fact ∈ facts ll) = !decide (x.fact = f.fact) := by
      rw [hL, ← decide_not]
      refine decide_eq_decide.2 ?_
      rw [List.mem_filter]
      constructor
      · rintro ⟨-, q⟩ e
        rw [decide_eq_true e] at q; cases q
      · intro q
        exact ⟨hm, by rw [decide_eq_false q]; rfl⟩
    rw [hd] at hC2
    have hC3 := pg_cmpF hxo hfm
    have hz : decide (cFact x.fact f.fact = 0) = decide (x.fact = f.fact) := decide_eq_decide.2 ⟨fun h => cFact_ord.eq0 h, fun h => by rw [h]; exact cFact_ord.refl _⟩
    repeat (first | refine byW ?_ | (refine byV ?_; intro w hw))
    refine W_quiet (by kernel_rfl) (by kernel_rfl) hw ?_
    repeat (first | refine Q_nil ?_ | (apply Q_plain; first | (apply Q_go; first | refine qP ?_ | refine qPg ?_) | refine qY ?_) | (apply Q_guarded; first | (apply Q_go; first | refine qPG ?_ | refine qPgG ?_) | refine qG ?_))
    intro w hw
    refine W_cond rfl (fun h3 => ?_) (fun h3 => ?_)
    · exfalso
      have h3 : (!true || ((!decide (x.fact = f.fact)) == decide (cFact x.fact f.fact = 0))) = true := h3
      rw [hz] at h3
      cases hq : decide (x.fact = f.fact) <;> rw [hq] at h3 <;> cases h3
    · repeat (first | refine byW ?_ | (refine byV ?_; intro w hw))
      exact ⟨μ - 1, by omega, k + 1, by omega, ⟨rfl, rfl, rfl, rfl, rfl, trivial⟩, hw⟩
  · repeat (first | refine byW ?_ | (refine byV ?_; intro w hw))
    exact ⟨_, rfl, Γ6, le1, rfl, hw.drop.drop⟩
theorem FactLaws_all {W : World} (hT : TabG (allG0 W)) {v : Value} (db : List FactH) (f g : FactH) (h0 : RepS (allG0 W) v 2 (db.map cF) ∧ FsIn (allG0 W) db) (h1 : FOk (allG0 W) f ∧ FactIn f.fact) (h2 : FOk (allG0 W) g ∧ FactIn g.fact) :
    Calls Tryz.prog 6 #[v, .agg (cF f).toArray, .agg (cF g).toArray] W fun e w' => ∃ Γ', (allG0 W).le Γ' ∧ e = .returned (.bool true) ∧ Wd Γ' [] w' :=
  FactLaws_any db f g h0.1 h0.2 (FsIn.cons h1 (FsIn.cons h2 FsIn.nil)) (allG0_wd W)
end Go.Proofs.YtmjkacgmepbljaaGreatDoor
end
