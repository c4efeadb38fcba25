/- Texts of this proof, one behind another. -/
import Derived.Test.YtekdbdhkpolooaaGreatM6
/- The facts of the services, by the server and by the reference. -/
section
open Go Mk
namespace Go.Proofs.YtekdbdhkpolooaaGreat
set_option maxHeartbeats 4000000
attribute [local irreducible] Calls cI cB cFact addF

def relS : ByteArray := ⟨#[115, 101, 114, 118, 105, 99, 101]⟩
def argsOf (s : Service) : List Val := [⟨2, 0, s.Name⟩, ⟨1, s.Core, ⟨#[]⟩⟩, ⟨1, s.Object, ⟨#[]⟩⟩, ⟨1, s.Kind, ⟨#[]⟩⟩]
def factOf (s : Service) : Fact := (relS, argsOf s)

theorem rServices_any (Γ : Gho) (S : List Res) (w : World) (r : Nat) (v1 v2 : Value) (ss : List Service) (ws : List Waiter) (hss : ss.length ≤ 64) (hw : Wd Γ (refL r v1 v2 ss ws ++ S) w) :
    Calls Tryz.prog 8 #[.pointer (some ⟨r, 0, none⟩)] w fun e w' => ∃ v, e = .returned v ∧ Wd Γ (.own v 32 4 (ss.map enc) :: (refL r v1 v2 ss ws ++ S)) w' := by
  unfold refL at *
  obtain ⟨a, n, c, rfl, hn, hnc, hc⟩ := hw.own_shape (i := 1) rfl
  simp only [List.length_map] at hn
  refine calls_of_W Tryz.func8 rfl rfl ?_
  repeat (first | (first | refine W_seq ?_ | refine W_block ?_ | refine W_region ?_ | refine W_skip ?_ | refine W_ret ?_ | refine W_exit ?_) | (first | refine L_nil ?_ | (apply L_plain; first | (apply L_go; first | refine lP ?_ | (refine lPg ?_; intro w hw)) | (apply L_mf; refine lMakeFunc ?_) | refine lY ?_) | (apply L_guarded; first | refine lGT ?_ | refine lGF ?_ | (apply L_go; refine lPG ?_) | refine lG ?_)))
  have hw := Wd.addNil (a := none) (E := 32) (sz := 4) hw
  refine lApp (i := 0) (rows2 := ss.map enc) ?_ (Wd.own_rd (i := 2) hw rfl) rfl rfl hw rfl (encs_one ss) (by simpa using hn)
  intro v' w hw
  repeat (first | (first | refine W_seq ?_ | refine W_block ?_ | refine W_region ?_ | refine W_skip ?_ | refine W_ret ?_ | refine W_exit ?_) | (first | refine L_nil ?_ | (apply L_plain; first | (apply L_go; first | refine lP ?_ | (refine lPg ?_; intro w hw)) | (apply L_mf; refine lMakeFunc ?_) | refine lY ?_) | (apply L_guarded; first | refine lGT ?_ | refine lGF ?_ | (apply L_go; refine lPG ?_) | refine lG ?_)))
  exact ⟨_, rfl, v', rfl, hw⟩
theorem rWaiters_any (Γ : Gho) (S : List Res) (w : World) (r : Nat) (v1 v2 : Value) (ss : List Service) (ws : List Waiter) (hws : ws.length ≤ 64) (hw : Wd Γ (refL r v1 v2 ss ws ++ S) w) :
    Calls Tryz.prog 11 #[.pointer (some ⟨r, 0, none⟩)] w fun e w' => ∃ v, e = .returned v ∧ Wd Γ (.own v 34 3 (ws.map enc) :: (refL r v1 v2 ss ws ++ S)) w' := by
  unfold refL at *
  obtain ⟨a, n, c, rfl, hn, hnc, hc⟩ := hw.own_shape (i := 2) rfl
  simp only [List.length_map] at hn
  refine calls_of_W Tryz.func11 rfl rfl ?_
  repeat (first | (first | refine W_seq ?_ | refine W_block ?_ | refine W_region ?_ | refine W_skip ?_ | refine W_ret ?_ | refine W_exit ?_) | (first | refine L_nil ?_ | (apply L_plain; first | (apply L_go; first | refine lP ?_ | (refine lPg ?_; intro w hw)) | (apply L_mf; refine lMakeFunc ?_) | refine lY ?_) | (apply L_guarded; first | refine lGT ?_ | refine lGF ?_ | (apply L_go; refine lPG ?_) | refine lG ?_)))
  have hw := Wd.addNil (a := none) (E := 34) (sz := 3) hw
  refine lApp (i := 0) (rows2 := ws.map enc) ?_ (Wd.own_rd (i := 3) hw rfl) rfl rfl hw rfl (encs_one ws) (by simpa using hn)
  intro v' w hw
  repeat (first | (first | refine W_seq ?_ | refine W_block ?_ | refine W_region ?_ | refine W_skip ?_ | refine W_ret ?_ | refine W_exit ?_) | (first | refine L_nil ?_ | (apply L_plain; first | (apply L_go; first | refine lP ?_ | (refine lPg ?_; intro w hw)) | (apply L_mf; refine lMakeFunc ?_) | refine lY ?_) | (apply L_guarded; first | refine lGT ?_ | refine lGF ?_ | (apply L_go; refine lPG ?_) | refine lG ?_)))
  exact ⟨_, rfl, v', rfl, hw⟩

theorem rFacts_any (Γ : Gho) (S : List Res) (w : World) (r : Nat) (v1 v2 : Value) (ss : List Service) (ws : List Waiter) (hss : ss.length ≤ 64) (hw : Wd Γ (refL r v1 v2 ss ws ++ S) w) :
    Calls Tryz.prog 14 #[.pointer (some ⟨r, 0, none⟩)] w fun e w' => ∃ v Γ' fs, e = .returned v ∧ Γ.le Γ' ∧ (∀ f ∈ fs, FOk Γ' f) ∧ fs.map FactH.fact = ss.map factOf ∧ Wd Γ' (.own v 74 2 ((setF fs).map cF) :: (refL r v1 v2 ss ws ++ S)) w' := by
  unfold refL at *
  obtain ⟨a, n, c, rfl, hn, hnc, hc⟩ := hw.own_shape (i := 1) rfl
  simp only [List.length_map] at hn
  refine calls_of_W Tryz.func14 rfl rfl ?_
  repeat (first | (first | refine W_seq ?_ | refine W_block ?_ | refine W_region ?_ | refine W_skip ?_ | refine W_ret ?_ | refine W_exit ?_) | (first | refine L_nil ?_ | (apply L_plain; first | (apply L_go; first | refine lP ?_ | (refine lPg ?_; intro w hw)) | (apply L_mf; refine lMakeFunc ?_) | refine lY ?_) | (apply L_guarded; first | refine lGT ?_ | refine lGF ?_ | (apply L_go; refine lPG ?_) | refine lG ?_)))
  refine W_loop (fun μ ρ w => ∃ (k : Nat) (g : Value) (Γ' : Gho) (fs : List FactH), μ + k = n ∧ Has ρ [(0, .pointer (some ⟨r, 0, none⟩)), (3, g), (4, .int .i64 k)] ∧ Γ.le Γ' ∧ (∀ f ∈ fs, FOk Γ' f) ∧ fs.map FactH.fact = (ss.take k).map factOf ∧ Wd Γ' (.own g 74 2 (fs.map cF) :: (refL r (.slice a n c) v2 ss ws ++ S)) w) n ⟨0, .slice none 0 0, Γ, [], by omega, ⟨rfl, rfl, rfl, trivial⟩, Gho.le.refl _, by simp, by simp, Wd.addNil hw⟩ ?_
  clear hw
  rintro μ ρ w ⟨k, g, Γ', fs, hk, hρ, hle, hok, hfs, hw⟩
  rw [hρ.eq]
  have hfl : fs.length ≤ 64 := by have := congrArg List.length hfs; simp at this; omega
  unfold refL at hw
  obtain ⟨ag, ng, cg, rfl, hng, hngc, hcg⟩ := hw.own_shape (i := 0) rfl
  simp only [List.length_map] at hng
  repeat (first | (first | refine W_seq ?_ | refine W_block ?_ | refine W_region ?_ | refine W_skip ?_ | refine W_ret ?_ | refine W_exit ?_) | (first | refine L_nil ?_ | (apply L_plain; first | (apply L_go; first | refine lP ?_ | (refine lPg ?_; intro w hw)) | (apply L_mf; refine lMakeFunc ?_) | refine lY ?_) | (apply L_guarded; first | refine lGT ?_ | refine lGF ?_ | (apply L_go; refine lPG ?_) | refine lG ?_)))
  refine W_cond rfl (fun h => ?_) (fun h => ?_)
  · have hkn : k < n := by simpa using h
    obtain ⟨x, hx⟩ := get_lt (l := ss) (k := k) (by omega)
    repeat (first | (first | refine W_seq ?_ | refine W_block ?_ | refine W_region ?_ | refine W_skip ?_ | refine W_ret ?_ | refine W_exit ?_) | (first | refine L_nil ?_ | (apply L_plain; first | (apply L_go; first | refine lP ?_ | (refine lPg ?_; intro w hw)) | (apply L_mf; refine lMakeFunc ?_) | refine lY ?_) | (apply L_guarded; first | refine lGT ?_ | refine lGF ?_ | (apply L_go; refine lPG ?_) | refine lG ?_)))
    refine lAlloc ?_
    intro b5 w hw
    refine lStore ?_
    intro w hw
    have hw : Wd Γ' (.blk b5 (.cells (enc x).toArray 32) :: (.own (.slice ag ng cg) 74 2 (fs.map cF) :: (refL r (.slice a n c) v2 ss ws ++ S))) w := hw
    repeat (first | (first | refine W_seq ?_ | refine W_block ?_ | refine W_region ?_ | refine W_skip ?_ | refine W_ret ?_ | refine W_exit ?_) | (first | refine L_nil ?_ | (apply L_plain; first | (apply L_go; first | refine lP ?_ | (refine lPg ?_; intro w hw)) | (apply L_mf; refine lMakeFunc ?_) | refine lY ?_) | (apply L_guarded; first | refine lGT ?_ | refine lGF ?_ | (apply L_go; refine lPG ?_) | refine lG ?_)))
    refine W_mixQ [.blk b5 _] (.own (.slice ag ng cg) 74 2 (fs.map cF) :: (refL r (.slice a n c) v2 ss ws ++ S)) [35, 36, 37, 38] 3 (.slice ag ng cg) [[],[],[],[],[],[],[],[],[],[],[],[],[],[0],[0],[0],[0],[0,1]] [[1],[],[],[],[],[],[],[],[],[],[],[],[],[0],[0],[0],[0],[0,1]] hw ?_
    refine mMoveR (dd := 3) ?_
    repeat (first | refine mY ?_ | refine mP ?_ | refine mPg ?_)
    refine mStepY (v := undef) (T' := Value) (fun t g => g 35 = t) (fun t => .own t 76 3 ((argsOf x).map enc) :: (.own (.slice ag ng cg) 74 2 (fs.map cF) :: (refL r (.slice a n c) v2 ss ws ++ S))) (fun t g w Y _ hw => s_buildSlice (rws := (argsOf x).map enc) hw rfl rfl rfl (fun r hr => by obtain ⟨v, _, rfl⟩ := List.mem_map.1 hr; rfl) (by decide) fun q w' hw' => ⟨_, rfl, (fun h => by cases h), hw'⟩) ?_
    refine mCallY (φ := fun (t : Value) g => g 35 = t) (R := fun t => .own t 76 3 ((argsOf x).map enc) :: (.own (.slice ag ng cg) 74 2 (fs.map cF) :: (refL r (.slice a n c) v2 ss ws ++ S))) (v := undef) (T' := FactH) (fun t g => g 36 = .agg (cF t).toArray ∧ t.fact = factOf x) (fun t => .own t.hdr 76 3 (t.Args.map enc) :: (.own (.slice ag ng cg) 74 2 (fs.map cF) :: (refL r (.slice a n c) v2 ss ws ++ S))) (fun t _ => [.string relS, t]) (fun t g w Y ht hw => ?_) ?_ (ha := fun t g ht => EvL.cons rfl (EvL.cons ht EvL.nil))
    · refine (Fact_any Γ' _ w t relS (argsOf x) (RdS.own (i := 0) hw rfl) (by simp [argsOf]) hw).mono ?_
      rintro e w ⟨f, rfl, hf, hw⟩
      exact ⟨_, rfl, f, ⟨rfl, hf⟩, (fun h => by cases h), hw.dropAt 1⟩
    refine mStepY (φ := fun (t : FactH) g => g 36 = .agg (cF t).toArray ∧ t.fact = factOf x) (R := fun t => .own t.hdr 76 3 (t.Args.map enc) :: (.own (.slice ag ng cg) 74 2 (fs.map cF) :: (refL r (.slice a n c) v2 ss ws ++ S))) (v := undef) (T' := Value × FactH) (fun t g => g 37 = t.1 ∧ t.2.fact = factOf x) (fun t => .own t.1 74 2 [cF t.2] :: .own t.2.hdr 76 3 (t.2.Args.map enc) :: (.own (.slice ag ng cg) 74 2 (fs.map cF) :: (refL r (.slice a n c) v2 ss ws ++ S))) (fun t g w Y ht hw => s_buildSlice (rws := [cF t]) (cells := cF t) hw ?_ (by simp) rfl (by simp [cF]) (by decide) fun q w' hw' => ⟨(_, t), ⟨rfl, ht.2⟩, (fun h => by cases h), hw'⟩) ?_
    · have h1 : g 36 = .agg (cF t).toArray := ht.1
      show fillL _ _ [(0, g 36)] = _
      rw [h1]; rfl
    refine mStepY (φ := fun (t : Value × FactH) g => g 37 = t.1 ∧ t.2.fact = factOf x) (R := fun t => .own t.1 74 2 [cF t.2] :: .own t.2.hdr 76 3 (t.2.Args.map enc) :: (.own (.slice ag ng cg) 74 2 (fs.map cF) :: (refL r (.slice a n c) v2 ss ws ++ S))) (v := undef) (T' := Value × FactH) (fun t g => g 38 = t.1 ∧ t.2.fact = factOf x) (fun t => .own t.1 74 2 (fs.map cF ++ [cF t.2]) :: .own t.2.hdr 76 3 (t.2.Args.map enc) :: (refL r (.slice a n c) v2 ss ws ++ S)) (fun t g w Y ht hw => ?_) ?_
    · obtain ⟨t1, f⟩ := t
      obtain ⟨a1, n1, c1, rfl, hn1, -, -⟩ := hw.own_shape (i := 0) rfl
      simp at hn1
      exact s_append (i := 2) (rows2 := [cF f]) hw rfl ht.1 rfl (Wd.own_rd (i := 0) hw rfl) (by simp; omega) (cFs_one [f]) (by omega) (by omega) fun v' w' hw' => ⟨(v', f), ⟨rfl, ht.2⟩, (fun h => by cases h), hw'.drop.ps [1]⟩
    refine mAssY (φ := fun (t : Value × FactH) g => g 38 = t.1 ∧ t.2.fact = factOf x) (dx := 38) (dd := 3) (fun t g => g 3 = t.1 ∧ t.2.fact = factOf x) (fun t g ht => ht) ?_
    refine mEndQ (φ := fun (t : Value × FactH) g => g 3 = t.1 ∧ t.2.fact = factOf x) fun t w g ht hw => ?_
    obtain ⟨t1, f⟩ := t
    obtain ⟨Γ2, hle2, hokf, hw⟩ := (hw.ps [1]).freeze
    refine W_has (l := [(0, .pointer (some ⟨r, 0, none⟩)), (3, t1), (4, .int .i64 k)]) ⟨rfl, ht.1, rfl, trivial⟩ fun ρ hρ => ?_
    rw [hρ.eq]
    repeat (first | (first | refine W_seq ?_ | refine W_block ?_ | refine W_region ?_ | refine W_skip ?_ | refine W_ret ?_ | refine W_exit ?_) | (first | refine L_nil ?_ | (apply L_plain; first | (apply L_go; first | refine lP ?_ | (refine lPg ?_; intro w hw)) | (apply L_mf; refine lMakeFunc ?_) | refine lY ?_) | (apply L_guarded; first | refine lGT ?_ | refine lGF ?_ | (apply L_go; refine lPG ?_) | refine lG ?_)))
    refine ⟨μ - 1, by omega, k + 1, t1, Γ2, fs ++ [f], by omega, ⟨rfl, rfl, rfl, trivial⟩, hle.trans hle2, ?_, ?_, ?_⟩
    · intro f' hf'
      rcases List.mem_append.1 hf' with hf' | hf'
      · exact (hok f' hf').mono hle2
      · simp at hf'; subst hf'; exact hokf
    · rw [List.take_add_one, hx]
      have := ht.2
      simp [hfs, this]
    · rw [show (fs ++ [f]).map cF = fs.map cF ++ [cF f] from by simp]
      exact Wd.left (S := _ :: (refL r (.slice a n c) v2 ss ws ++ S)) hw
  · have hkn : ¬ k < n := by simpa using h
    rw [List.take_of_length_le (by omega)] at hfs
    repeat (first | (first | refine W_seq ?_ | refine W_block ?_ | refine W_region ?_ | refine W_skip ?_ | refine W_ret ?_ | refine W_exit ?_) | (first | refine L_nil ?_ | (apply L_plain; first | (apply L_go; first | refine lP ?_ | (refine lPg ?_; intro w hw)) | (apply L_mf; refine lMakeFunc ?_) | refine lY ?_) | (apply L_guarded; first | refine lGT ?_ | refine lGF ?_ | (apply L_go; refine lPG ?_) | refine lG ?_)))
    refine lCall ?_
    refine (Set_any Γ' _ w _ fs hok (by omega) hw).mono ?_
    rintro e w ⟨v', rfl, hw⟩
    refine ⟨_, rfl, ?_⟩
    repeat (first | (first | refine W_seq ?_ | refine W_block ?_ | refine W_region ?_ | refine W_skip ?_ | refine W_ret ?_ | refine W_exit ?_) | (first | refine L_nil ?_ | (apply L_plain; first | (apply L_go; first | refine lP ?_ | (refine lPg ?_; intro w hw)) | (apply L_mf; refine lMakeFunc ?_) | refine lY ?_) | (apply L_guarded; first | refine lGT ?_ | refine lGF ?_ | (apply L_go; refine lPG ?_) | refine lG ?_)))
    exact ⟨_, rfl, v', Γ', fs, rfl, hle, hok, hfs, hw.dropAt 1⟩
end Go.Proofs.YtekdbdhkpolooaaGreat
end
/- The facts of the services, by the server: they come sorted. -/
section
open Go Mk
namespace Go.Proofs.YtekdbdhkpolooaaGreat
set_option maxHeartbeats 4000000
attribute [local irreducible] Calls cI cB

theorem cFact_svc {a b : Service} (h : bLt a.Name b.Name = true) : cFact (factOf a) (factOf b) = -1 := by
  have h1 : cV ⟨2, 0, a.Name⟩ ⟨2, 0, b.Name⟩ = -1 := by
    unfold cV; rw [cI_ord.refl, orI_null rfl, cI_ord.refl, orI_null rfl]; exact cB_lt.2 h
  show orI (cB relS relS) (orI (cI 4 4) (cL cV (argsOf a) (argsOf b))) = -1
  rw [cB_ord.refl, orI_null rfl, cI_ord.refl, orI_null rfl]
  show orI (cV _ _) _ = -1
  rw [h1]; rfl
theorem facts_strict {fs : List FactH} {ss : List Service} (h : fs.map FactH.fact = ss.map factOf) (hs : ss.Pairwise fun a b => bLt a.Name b.Name = true) : fs.Pairwise fun a b => cFact a.fact b.fact = -1 := by
  have h1 : (ss.map factOf).Pairwise fun a b => cFact a b = -1 := by
    rw [List.pairwise_map]; exact hs.imp fun h => cFact_svc h
  rw [← h, List.pairwise_map] at h1
  exact h1
theorem addF_end {acc : List FactH} {x : FactH} (h : ∀ a ∈ acc, cFact a.fact x.fact = -1) : addF acc x = acc ++ [x] := by
  have hk : addK acc x acc.length = acc.length := by
    cases hn : acc.length with
    | zero => rfl
    | succ k =>
      obtain ⟨y, hy⟩ := get_lt (l := acc) (k := k) (by omega)
      unfold addK
      rw [hy]
      exact if_neg (by rw [h y (List.mem_of_getElem? hy)]; decide)
  unfold addF
  dsimp only
  rw [hk]
  cases hn : acc.length with
  | zero => rw [List.eq_nil_of_length_eq_zero hn]; rfl
  | succ k =>
    obtain ⟨y, hy⟩ := get_lt (l := acc) (k := k) (by omega)
    dsimp only
    rw [hy]
    dsimp only
    rw [if_neg (by rw [h y (List.mem_of_getElem? hy)]; decide), ← hn]
    simp
theorem setF_strict {fs : List FactH} (h : fs.Pairwise fun a b => cFact a.fact b.fact = -1) : setF fs = fs := by
  have key : ∀ (l acc : List FactH), ((acc ++ l).Pairwise fun a b => cFact a.fact b.fact = -1) → l.foldl addF acc = acc ++ l := by
    intro l
    induction l with
    | nil => intro acc _; simp
    | cons y l ih =>
      intro acc hp
      have h1 : addF acc y = acc ++ [y] := addF_end fun a ha => (List.pairwise_append.1 hp).2.2 a ha y (by simp)
      rw [List.foldl_cons, h1, ih _ (by simpa using hp)]; simp
  show fs.foldl addF [] = fs
  simpa using key fs [] (by simpa using h)

attribute [local irreducible] cFact addF
instance pg_F1 (Γ : Gho) (v : Int) : PG Tryz.prog Γ 37 [.int .i64 v] (.agg (enc (⟨1, v, ⟨#[]⟩⟩ : Val)).toArray) := ⟨fun S w hw => by
  refine calls_of_WC Tryz.func37 rfl rfl ?_
  repeat (first | (first | refine W_seq ?_ | refine W_block ?_ | refine W_region ?_ | refine W_skip ?_ | refine W_ret ?_ | refine W_exit ?_) | (first | refine L_nil ?_ | (apply L_plain; first | (apply L_go; first | refine lP ?_ | (refine lPg ?_; intro w hw)) | (apply L_mf; refine lMakeFunc ?_) | refine lY ?_) | (apply L_guarded; first | refine lGT ?_ | refine lGF ?_ | (apply L_go; refine lPG ?_) | refine lG ?_)))
  refine lAlloc ?_
  intro b w hw
  repeat (first | (first | refine W_seq ?_ | refine W_block ?_ | refine W_region ?_ | refine W_skip ?_ | refine W_ret ?_ | refine W_exit ?_) | (first | refine L_nil ?_ | (apply L_plain; first | (apply L_go; first | refine lP ?_ | (refine lPg ?_; intro w hw)) | (apply L_mf; refine lMakeFunc ?_) | refine lY ?_) | (apply L_guarded; first | refine lGT ?_ | refine lGF ?_ | (apply L_go; refine lPG ?_) | refine lG ?_)))
  refine lStore ?_
  intro w hw
  have hw : Wd Γ (.blk b (.cells (enc (⟨1, v, ⟨#[]⟩⟩ : Val)).toArray 76) :: S) w := hw
  repeat (first | (first | refine W_seq ?_ | refine W_block ?_ | refine W_region ?_ | refine W_skip ?_ | refine W_ret ?_ | refine W_exit ?_) | (first | refine L_nil ?_ | (apply L_plain; first | (apply L_go; first | refine lP ?_ | (refine lPg ?_; intro w hw)) | (apply L_mf; refine lMakeFunc ?_) | refine lY ?_) | (apply L_guarded; first | refine lGT ?_ | refine lGF ?_ | (apply L_go; refine lPG ?_) | refine lG ?_)))
  exact ⟨[.agg (enc (⟨1, v, ⟨#[]⟩⟩ : Val)).toArray], ⟨resC (i := 0) hw rfl rfl rfl, trivial⟩, rfl, hw.drop⟩⟩

theorem sFacts_any (Γ : Gho) (S : List Res) (w : World) (b bm : Nat) (vs : Value) (m : List (ByteArray × Service)) (ws : List Waiter) (ss : List Service) (hI : Inv m ws) (h2 : Sorted m ss) (hw : Wd Γ (srvL b bm vs m ws ++ S) w) :
    Calls Tryz.prog 13 #[.pointer (some ⟨b, 0, none⟩)] w fun e w' => ∃ (v : Value) (Γ' : Gho) (fs : List FactH), e = .returned v ∧ Γ.le Γ' ∧ (∀ f ∈ fs, FOk Γ' f) ∧ fs.map FactH.fact = ss.map factOf ∧ Wd Γ' (.own v 74 2 (fs.map cF) :: (srvL b bm vs m ws ++ S)) w' := by
  have hsl := sorted_len h2
  have hml := hI.ml
  refine calls_of_W Tryz.func13 rfl rfl ?_
  repeat (first | (first | refine W_seq ?_ | refine W_block ?_ | refine W_region ?_ | refine W_skip ?_ | refine W_ret ?_ | refine W_exit ?_) | (first | refine L_nil ?_ | (apply L_plain; first | (apply L_go; first | refine lP ?_ | (refine lPg ?_; intro w hw)) | (apply L_mf; refine lMakeFunc ?_) | refine lY ?_) | (apply L_guarded; first | refine lGT ?_ | refine lGF ?_ | (apply L_go; refine lPG ?_) | refine lG ?_)))
  refine lCall ?_
  refine (Services_any Γ _ w b bm vs m ws hI.ml hw).mono ?_
  rintro e w ⟨vsv, ys, rfl, hys, hw⟩
  obtain rfl := sorted_eq hI hys h2
  refine ⟨_, rfl, ?_⟩
  obtain ⟨a, n, c, rfl, hn, hnc, hc⟩ := hw.own_shape (i := 0) rfl
  simp only [List.length_map] at hn
  repeat (first | (first | refine W_seq ?_ | refine W_block ?_ | refine W_region ?_ | refine W_skip ?_ | refine W_ret ?_ | refine W_exit ?_) | (first | refine L_nil ?_ | (apply L_plain; first | (apply L_go; first | refine lP ?_ | (refine lPg ?_; intro w hw)) | (apply L_mf; refine lMakeFunc ?_) | refine lY ?_) | (apply L_guarded; first | refine lGT ?_ | refine lGF ?_ | (apply L_go; refine lPG ?_) | refine lG ?_)))
  refine W_loop (fun μ ρ w => ∃ (k : Nat) (g : Value) (Γ' : Gho) (fs : List FactH), μ + k = n ∧ Has ρ [(3, .func (.func 37) #[] #[]), (4, g), (9, .slice a n c), (10, .int .i64 n), (11, .int .i64 k)] ∧ Γ.le Γ' ∧ (∀ f ∈ fs, FOk Γ' f) ∧ fs.map FactH.fact = (ys.take k).map factOf ∧ Wd Γ' (.own g 74 2 (fs.map cF) :: .own (.slice a n c) 32 4 (ys.map enc) :: (srvL b bm vs m ws ++ S)) w) n ⟨0, .slice none 0 0, Γ, [], by omega, ⟨rfl, rfl, rfl, rfl, rfl, trivial⟩, Gho.le.refl _, by simp, by simp, Wd.addNil hw⟩ ?_
  clear hw
  rintro μ ρ w ⟨k, g, Γ', fs, hk, hρ, hle, hok, hfs, hw⟩
  rw [hρ.eq]
  have hfl : fs.length ≤ 64 := by have := congrArg List.length hfs; simp at this; omega
  obtain ⟨ag, ng, cg, rfl, hng, hngc, hcg⟩ := hw.own_shape (i := 0) rfl
  simp only [List.length_map] at hng
  repeat (first | (first | refine W_seq ?_ | refine W_block ?_ | refine W_region ?_ | refine W_skip ?_ | refine W_ret ?_ | refine W_exit ?_) | (first | refine L_nil ?_ | (apply L_plain; first | (apply L_go; first | refine lP ?_ | (refine lPg ?_; intro w hw)) | (apply L_mf; refine lMakeFunc ?_) | refine lY ?_) | (apply L_guarded; first | refine lGT ?_ | refine lGF ?_ | (apply L_go; refine lPG ?_) | refine lG ?_)))
  refine W_cond rfl (fun h => ?_) (fun h => ?_)
  · have hkn : k < n := by simpa using h
    obtain ⟨x, hx⟩ := get_lt (l := ys) (k := k) (by omega)
    repeat (first | (first | refine W_seq ?_ | refine W_block ?_ | refine W_region ?_ | refine W_skip ?_ | refine W_ret ?_ | refine W_exit ?_) | (first | refine L_nil ?_ | (apply L_plain; first | (apply L_go; first | refine lP ?_ | (refine lPg ?_; intro w hw)) | (apply L_mf; refine lMakeFunc ?_) | refine lY ?_) | (apply L_guarded; first | refine lGT ?_ | refine lGF ?_ | (apply L_go; refine lPG ?_) | refine lG ?_)))
    refine lAlloc ?_
    intro b6 w hw
    refine lStore ?_
    intro w hw
    have hw : Wd Γ' (.blk b6 (.cells (enc x).toArray 32) :: (.own (.slice ag ng cg) 74 2 (fs.map cF) :: .own (.slice a n c) 32 4 (ys.map enc) :: (srvL b bm vs m ws ++ S))) w := hw
    repeat (first | (first | refine W_seq ?_ | refine W_block ?_ | refine W_region ?_ | refine W_skip ?_ | refine W_ret ?_ | refine W_exit ?_) | (first | refine L_nil ?_ | (apply L_plain; first | (apply L_go; first | refine lP ?_ | (refine lPg ?_; intro w hw)) | (apply L_mf; refine lMakeFunc ?_) | refine lY ?_) | (apply L_guarded; first | refine lGT ?_ | refine lGF ?_ | (apply L_go; refine lPG ?_) | refine lG ?_)))
    refine W_mixC [.blk b6 _] (.own (.slice ag ng cg) 74 2 (fs.map cF) :: .own (.slice a n c) 32 4 (ys.map enc) :: (srvL b bm vs m ws ++ S)) [30, 7] [[],[],[],[],[],[],[],[],[],[],[],[],[],[],[],[0],[0]] hw ?_
    repeat (first | refine mY ?_ | refine mP ?_ | refine mPg ?_)
    refine mY (v := .agg (enc (⟨2, 0, x.Name⟩ : Val)).toArray) ?_ rfl rfl rfl (fun Y w g hw => y_build rfl)
    repeat (first | refine mY ?_ | refine mP ?_ | refine mPg ?_)
    refine mPgv ?_
    repeat (first | refine mY ?_ | refine mP ?_ | refine mPg ?_)
    refine mPgv ?_
    repeat (first | refine mY ?_ | refine mP ?_ | refine mPg ?_)
    refine mPgv ?_
    repeat (first | refine mY ?_ | refine mP ?_ | refine mPg ?_)
    refine mStepX (v := undef) (T' := Value) (fun t g => g 30 = t) (fun t => .own t 76 3 ((argsOf x).map enc) :: (.own (.slice ag ng cg) 74 2 (fs.map cF) :: .own (.slice a n c) 32 4 (ys.map enc) :: (srvL b bm vs m ws ++ S))) (fun t g w Y _ hw => s_buildSlice (rws := (argsOf x).map enc) hw rfl rfl rfl (fun r hr => by obtain ⟨v, _, rfl⟩ := List.mem_map.1 hr; rfl) (by decide) fun q w' hw' => ⟨_, rfl, (fun h => by cases h), hw'⟩) ?_
    refine mStepX (φ := fun (t : Value) g => g 30 = t) (R := fun t => .own t 76 3 ((argsOf x).map enc) :: (.own (.slice ag ng cg) 74 2 (fs.map cF) :: .own (.slice a n c) 32 4 (ys.map enc) :: (srvL b bm vs m ws ++ S))) (v := undef) (T' := Value) (fun t g => g 7 = t) (fun t => .own t 76 3 ((argsOf x).map enc) :: (.own (.slice ag ng cg) 74 2 (fs.map cF) :: .own (.slice a n c) 32 4 (ys.map enc) :: (srvL b bm vs m ws ++ S))) (fun t g w Y ht hw => Yields.step (y_assign ht) ⟨t, rfl, (fun h => by cases h), hw⟩) ?_
    refine mEndX (φ := fun (t : Value) g => g 7 = t) fun t w g ht hw => ?_
    obtain ⟨a7, n7, c7, rfl, hn7, hnc7, hc7⟩ := hw.own_shape (i := 0) rfl
    refine W_has (l := [(3, .func (.func 37) #[] #[]), (4, .slice ag ng cg), (7, .slice a7 n7 c7), (9, .slice a n c), (10, .int .i64 n), (11, .int .i64 k)]) ⟨rfl, rfl, ht, rfl, rfl, rfl, trivial⟩ fun ρ hρ => ?_
    rw [hρ.eq]
    have hw : Wd Γ' (.own (.slice a7 n7 c7) 76 3 ((argsOf x).map enc) :: .own (.slice ag ng cg) 74 2 (fs.map cF) :: .own (.slice a n c) 32 4 (ys.map enc) :: (srvL b bm vs m ws ++ S)) w := Wd.left (S := _ :: _ :: _ :: (srvL b bm vs m ws ++ S)) hw
    obtain ⟨Γ2, hle2, hokf, hw⟩ := hw.freeze
    repeat (first | (first | refine W_seq ?_ | refine W_block ?_ | refine W_region ?_ | refine W_skip ?_ | refine W_ret ?_ | refine W_exit ?_) | (first | refine L_nil ?_ | (apply L_plain; first | (apply L_go; first | refine lP ?_ | (refine lPg ?_; intro w hw)) | (apply L_mf; refine lMakeFunc ?_) | refine lY ?_) | (apply L_guarded; first | refine lGT ?_ | refine lGF ?_ | (apply L_go; refine lPG ?_) | refine lG ?_)))
    refine lBuildSlice [cF ⟨relS, a7, n7, c7, argsOf x⟩] ?_
    intro a34 w hw
    refine lApp (i := 1) (rows2 := [cF ⟨relS, a7, n7, c7, argsOf x⟩]) ?_ (Wd.own_rd (i := 0) hw rfl)
    intro v' w hw
    repeat (first | (first | refine W_seq ?_ | refine W_block ?_ | refine W_region ?_ | refine W_skip ?_ | refine W_ret ?_ | refine W_exit ?_) | (first | refine L_nil ?_ | (apply L_plain; first | (apply L_go; first | refine lP ?_ | (refine lPg ?_; intro w hw)) | (apply L_mf; refine lMakeFunc ?_) | refine lY ?_) | (apply L_guarded; first | refine lGT ?_ | refine lGF ?_ | (apply L_go; refine lPG ?_) | refine lG ?_)))
    refine ⟨μ - 1, by omega, k + 1, v', Γ2, fs ++ [⟨relS, a7, n7, c7, argsOf x⟩], by omega, ⟨rfl, rfl, rfl, rfl, rfl, trivial⟩, hle.trans hle2, ?_, ?_, ?_⟩
    · intro f' hf'
      rcases List.mem_append.1 hf' with hf' | hf'
      · exact (hok f' hf').mono hle2
      · simp at hf'; subst hf'; exact hokf
    · rw [List.take_add_one, hx]
      simp [hfs, factOf, FactH.fact]
    · have e2 : (fs ++ [(⟨relS, a7, n7, c7, argsOf x⟩ : FactH)]).map cF = fs.map cF ++ [cF ⟨relS, a7, n7, c7, argsOf x⟩] := by simp
      rw [e2]
      exact hw.drop
  · have hkn : ¬ k < n := by simpa using h
    rw [List.take_of_length_le (by omega)] at hfs
    repeat (first | (first | refine W_seq ?_ | refine W_block ?_ | refine W_region ?_ | refine W_skip ?_ | refine W_ret ?_ | refine W_exit ?_) | (first | refine L_nil ?_ | (apply L_plain; first | (apply L_go; first | refine lP ?_ | (refine lPg ?_; intro w hw)) | (apply L_mf; refine lMakeFunc ?_) | refine lY ?_) | (apply L_guarded; first | refine lGT ?_ | refine lGF ?_ | (apply L_go; refine lPG ?_) | refine lG ?_)))
    refine lCall ?_
    refine (sort_facts fs _ hok (by omega) hw).mono ?_
    rintro e w ⟨rfl, gs, hp, hs, hw⟩
    have hstr := facts_strict hfs (sorted_strict hI h2)
    have he := sort_uniq (lt := Go.Proofs.ltOf fun a b : FactH => cFact a.fact b.fact) (hstr.imp fun {a b} hab => cFact_ord.lt_iff.2 hab) hs hp
    rw [he] at hw
    refine ⟨_, rfl, ?_⟩
    repeat (first | (first | refine W_seq ?_ | refine W_block ?_ | refine W_region ?_ | refine W_skip ?_ | refine W_ret ?_ | refine W_exit ?_) | (first | refine L_nil ?_ | (apply L_plain; first | (apply L_go; first | refine lP ?_ | (refine lPg ?_; intro w hw)) | (apply L_mf; refine lMakeFunc ?_) | refine lY ?_) | (apply L_guarded; first | refine lGT ?_ | refine lGF ?_ | (apply L_go; refine lPG ?_) | refine lG ?_)))
    exact ⟨_, rfl, _, Γ', fs, rfl, hle, hok, hfs, hw.dropAt 1⟩
end Go.Proofs.YtekdbdhkpolooaaGreat
end
/- NameExact: the walk. -/
section
open Go Mk
namespace Go.Proofs.YtekdbdhkpolooaaGreat
set_option maxHeartbeats 4000000
attribute [local irreducible] Calls regErr regM regW regF awErr awW awF awS unErr unM caErr caW foundOf delAll lkErr rgErr ruErr ruS rLkErr rawErr rawW rawF rawS setF

theorem NameExact_any (Γ : Gho) (S : List Res) (w : World) (va : Value) (xs : List Step) (ha : RepS Γ va 12 (xs.map enc)) (hw : Wd Γ S w) :
    Calls Tryz.prog 3 #[va] w fun e w' => e = .returned (.bool true) ∧ ∃ Γ' S', Γ.le Γ' ∧ Wd Γ' (S' ++ S) w' := by
  obtain ⟨a, n, c, rfl, hn, hnc, hc⟩ := ha.shape
  simp only [List.length_map] at hn
  refine calls_of_W Tryz.func3 rfl rfl ?_
  repeat (first | (first | refine W_seq ?_ | refine W_block ?_ | refine W_region ?_ | refine W_skip ?_ | refine W_ret ?_ | refine W_exit ?_) | (first | refine L_nil ?_ | (apply L_plain; first | (apply L_go; first | refine lP ?_ | (refine lPg ?_; intro w hw)) | (apply L_mf; refine lMakeFunc ?_) | refine lY ?_) | (apply L_guarded; first | refine lGT ?_ | refine lGF ?_ | (apply L_go; refine lPG ?_) | refine lG ?_)))
  refine lCall ?_
  refine (New_any Γ S w hw).mono ?_
  rintro e w ⟨b, bm, rfl, hw⟩
  refine ⟨_, rfl, ?_⟩
  repeat (first | (first | refine W_seq ?_ | refine W_block ?_ | refine W_region ?_ | refine W_skip ?_ | refine W_ret ?_ | refine W_exit ?_) | (first | refine L_nil ?_ | (apply L_plain; first | (apply L_go; first | refine lP ?_ | (refine lPg ?_; intro w hw)) | (apply L_mf; refine lMakeFunc ?_) | refine lY ?_) | (apply L_guarded; first | refine lGT ?_ | refine lGF ?_ | (apply L_go; refine lPG ?_) | refine lG ?_)))
  refine lBox ?_
  intro r w hw
  repeat (first | (first | refine W_seq ?_ | refine W_block ?_ | refine W_region ?_ | refine W_skip ?_ | refine W_ret ?_ | refine W_exit ?_) | (first | refine L_nil ?_ | (apply L_plain; first | (apply L_go; first | refine lP ?_ | (refine lPg ?_; intro w hw)) | (apply L_mf; refine lMakeFunc ?_) | refine lY ?_) | (apply L_guarded; first | refine lGT ?_ | refine lGF ?_ | (apply L_go; refine lPG ?_) | refine lG ?_)))
  refine W_cond rfl (fun h => by simp at h) (fun _ => ?_)
  repeat (first | (first | refine W_seq ?_ | refine W_block ?_ | refine W_region ?_ | refine W_skip ?_ | refine W_ret ?_ | refine W_exit ?_) | (first | refine L_nil ?_ | (apply L_plain; first | (apply L_go; first | refine lP ?_ | (refine lPg ?_; intro w hw)) | (apply L_mf; refine lMakeFunc ?_) | refine lY ?_) | (apply L_guarded; first | refine lGT ?_ | refine lGF ?_ | (apply L_go; refine lPG ?_) | refine lG ?_)))
  have hw : Wd Γ (srvL b bm (.slice none 0 0) [] [] ++ (refL r (.slice none 0 0) (.slice none 0 0) [] [] ++ ([] ++ S))) w := by
    have h1 := Wd.addNil (a := none) (E := 32) (sz := 4) (Wd.addNil (a := none) (E := 34) (sz := 3) hw)
    exact h1.ps [1, 1, 2, 5, 5, 5]
  refine W_loop (fun μ ρ w => ∃ (k : Nat) (m : List (ByteArray × Service)) (ws : List Waiter) (ss : List Service) (vs v1 v2 : Value) (S1 : List Res), μ + k = n ∧ Has ρ [(0, .slice a n c), (3, .pointer (some ⟨b, 0, none⟩)), (4, .pointer (some ⟨r, 0, none⟩)), (5, .int .i64 k)] ∧ Inv m ws ∧ ValM m ∧ Sorted m ss ∧ Wd Γ (srvL b bm vs m ws ++ (refL r v1 v2 ss ws ++ (S1 ++ S))) w) n ⟨0, [], [], [], _, _, _, [], by omega, ⟨rfl, rfl, rfl, rfl, trivial⟩, inv_nil, val_nil, ⟨List.Perm.refl _, List.Pairwise.nil⟩, hw⟩ ?_
  clear hw
  rintro μ ρ w ⟨k, m, ws, ss, vs, v1, v2, S1, hk, hρ, hI, hV, h2, hw⟩
  rw [hρ.eq]
  repeat (first | (first | refine W_seq ?_ | refine W_block ?_ | refine W_region ?_ | refine W_skip ?_ | refine W_ret ?_ | refine W_exit ?_) | (first | refine L_nil ?_ | (apply L_plain; first | (apply L_go; first | refine lP ?_ | (refine lPg ?_; intro w hw)) | (apply L_mf; refine lMakeFunc ?_) | refine lY ?_) | (apply L_guarded; first | refine lGT ?_ | refine lGF ?_ | (apply L_go; refine lPG ?_) | refine lG ?_)))
  refine W_cond rfl (fun h => ?_) (fun h => ?_)
  · have hkn : k < n := by simp only [Bool.and_eq_true, decide_eq_true_eq] at h; omega
    obtain ⟨x, hx⟩ := get_lt (l := xs) (k := k) (by omega)
    repeat (first | (first | refine W_seq ?_ | refine W_block ?_ | refine W_region ?_ | refine W_skip ?_ | refine W_ret ?_ | refine W_exit ?_) | (first | refine L_nil ?_ | (apply L_plain; first | (apply L_go; first | refine lP ?_ | (refine lPg ?_; intro w hw)) | (apply L_mf; refine lMakeFunc ?_) | refine lY ?_) | (apply L_guarded; first | refine lGT ?_ | refine lGF ?_ | (apply L_go; refine lPG ?_) | refine lG ?_)))
    refine lCall ?_
    refine (do_any Γ _ w b bm vs m ws r v1 v2 ss x hI hV h2 hw).mono ?_
    rintro e w ⟨rfl, vs', v1', v2', m', ws', ss', S2, hI', hV', h2', hw⟩
    refine ⟨_, rfl, ?_⟩
    have hsl := sorted_len h2'
    have hml := hI'.ml
    have hwl := hI'.wl
    rw [← List.append_assoc S2] at hw
    generalize S2 ++ S1 = S3 at hw
    repeat (first | (first | refine W_seq ?_ | refine W_block ?_ | refine W_region ?_ | refine W_skip ?_ | refine W_ret ?_ | refine W_exit ?_) | ((first | apply L_bin | apply L_notop); first | (refine lT ?_ ?_; (first | exact rfl | exact decide_eq_true rfl | (simp; done))) | (refine lF ?_ ?_; (first | exact rfl | exact decide_eq_true rfl | (simp; done)))) | (first | refine L_nil ?_ | (apply L_plain; first | (apply L_go; first | refine lP ?_ | (refine lPg ?_; intro w hw)) | (apply L_mf; refine lMakeFunc ?_) | refine lY ?_) | (apply L_guarded; first | refine lGT ?_ (hct := rfl) | refine lGF ?_ (hct := rfl) | (apply L_go; refine lPG ?_) | refine lG ?_)) | (refine lAlloc ?_; intro _ w hw) | (refine lBox ?_; intro _ w hw) | (refine lStore ?_; intro w hw))
    refine lCall ?_
    refine (Services_any Γ _ w b bm vs' m' ws' hI'.ml hw).mono ?_
    rintro e w ⟨vb, ys, rfl, hys, hw⟩
    obtain rfl := sorted_eq hI' hys h2'
    refine ⟨_, rfl, ?_⟩
    repeat (first | (first | refine W_seq ?_ | refine W_block ?_ | refine W_region ?_ | refine W_skip ?_ | refine W_ret ?_ | refine W_exit ?_) | ((first | apply L_bin | apply L_notop); first | (refine lT ?_ ?_; (first | exact rfl | exact decide_eq_true rfl | (simp; done))) | (refine lF ?_ ?_; (first | exact rfl | exact decide_eq_true rfl | (simp; done)))) | (first | refine L_nil ?_ | (apply L_plain; first | (apply L_go; first | refine lP ?_ | (refine lPg ?_; intro w hw)) | (apply L_mf; refine lMakeFunc ?_) | refine lY ?_) | (apply L_guarded; first | refine lGT ?_ (hct := rfl) | refine lGF ?_ (hct := rfl) | (apply L_go; refine lPG ?_) | refine lG ?_)) | (refine lAlloc ?_; intro _ w hw) | (refine lBox ?_; intro _ w hw) | (refine lStore ?_; intro w hw))
    refine lCall ?_
    refine (rServices_any Γ _ w r v1' v2' ys ws' (by omega) (hw.ps [6, 6, 6])).mono ?_
    rintro e w ⟨vb2, rfl, hw⟩
    refine ⟨_, rfl, ?_⟩
    repeat (first | (first | refine W_seq ?_ | refine W_block ?_ | refine W_region ?_ | refine W_skip ?_ | refine W_ret ?_ | refine W_exit ?_) | ((first | apply L_bin | apply L_notop); first | (refine lT ?_ ?_; (first | exact rfl | exact decide_eq_true rfl | (simp; done))) | (refine lF ?_ ?_; (first | exact rfl | exact decide_eq_true rfl | (simp; done)))) | (first | refine L_nil ?_ | (apply L_plain; first | (apply L_go; first | refine lP ?_ | (refine lPg ?_; intro w hw)) | (apply L_mf; refine lMakeFunc ?_) | refine lY ?_) | (apply L_guarded; first | refine lGT ?_ (hct := rfl) | refine lGF ?_ (hct := rfl) | (apply L_go; refine lPG ?_) | refine lG ?_)) | (refine lAlloc ?_; intro _ w hw) | (refine lBox ?_; intro _ w hw) | (refine lStore ?_; intro w hw))
    refine lCall ?_
    refine (SameServices_own Γ _ w vb vb2 _ _ (hw.ps [0, 4])).mono ?_
    rintro e w ⟨rfl, hw⟩
    refine ⟨_, rfl, ?_⟩
    rw [show decide (ys = ys) = true from by simp]
    repeat (first | (first | refine W_seq ?_ | refine W_block ?_ | refine W_region ?_ | refine W_skip ?_ | refine W_ret ?_ | refine W_exit ?_) | ((first | apply L_bin | apply L_notop); first | (refine lT ?_ ?_; (first | exact rfl | exact decide_eq_true rfl | (simp; done))) | (refine lF ?_ ?_; (first | exact rfl | exact decide_eq_true rfl | (simp; done)))) | (first | refine L_nil ?_ | (apply L_plain; first | (apply L_go; first | refine lP ?_ | (refine lPg ?_; intro w hw)) | (apply L_mf; refine lMakeFunc ?_) | refine lY ?_) | (apply L_guarded; first | refine lGT ?_ (hct := rfl) | refine lGF ?_ (hct := rfl) | (apply L_go; refine lPG ?_) | refine lG ?_)) | (refine lAlloc ?_; intro _ w hw) | (refine lBox ?_; intro _ w hw) | (refine lStore ?_; intro w hw))
    refine lCall ?_
    refine (Waiters_any Γ _ w b bm vs' m' ws' hI'.wl (hw.ps [7, 7, 7])).mono ?_
    rintro e w ⟨vw, rfl, hw⟩
    refine ⟨_, rfl, ?_⟩
    repeat (first | (first | refine W_seq ?_ | refine W_block ?_ | refine W_region ?_ | refine W_skip ?_ | refine W_ret ?_ | refine W_exit ?_) | ((first | apply L_bin | apply L_notop); first | (refine lT ?_ ?_; (first | exact rfl | exact decide_eq_true rfl | (simp; done))) | (refine lF ?_ ?_; (first | exact rfl | exact decide_eq_true rfl | (simp; done)))) | (first | refine L_nil ?_ | (apply L_plain; first | (apply L_go; first | refine lP ?_ | (refine lPg ?_; intro w hw)) | (apply L_mf; refine lMakeFunc ?_) | refine lY ?_) | (apply L_guarded; first | refine lGT ?_ (hct := rfl) | refine lGF ?_ (hct := rfl) | (apply L_go; refine lPG ?_) | refine lG ?_)) | (refine lAlloc ?_; intro _ w hw) | (refine lBox ?_; intro _ w hw) | (refine lStore ?_; intro w hw))
    refine lCall ?_
    refine (rWaiters_any Γ _ w r v1' v2' ys ws' (by omega) (hw.ps [8, 8, 8])).mono ?_
    rintro e w ⟨vw2, rfl, hw⟩
    refine ⟨_, rfl, ?_⟩
    repeat (first | (first | refine W_seq ?_ | refine W_block ?_ | refine W_region ?_ | refine W_skip ?_ | refine W_ret ?_ | refine W_exit ?_) | ((first | apply L_bin | apply L_notop); first | (refine lT ?_ ?_; (first | exact rfl | exact decide_eq_true rfl | (simp; done))) | (refine lF ?_ ?_; (first | exact rfl | exact decide_eq_true rfl | (simp; done)))) | (first | refine L_nil ?_ | (apply L_plain; first | (apply L_go; first | refine lP ?_ | (refine lPg ?_; intro w hw)) | (apply L_mf; refine lMakeFunc ?_) | refine lY ?_) | (apply L_guarded; first | refine lGT ?_ (hct := rfl) | refine lGF ?_ (hct := rfl) | (apply L_go; refine lPG ?_) | refine lG ?_)) | (refine lAlloc ?_; intro _ w hw) | (refine lBox ?_; intro _ w hw) | (refine lStore ?_; intro w hw))
    refine lCall ?_
    refine (SameWaiters_own Γ _ w vw vw2 _ _ (hw.ps [0, 4])).mono ?_
    rintro e w ⟨rfl, hw⟩
    refine ⟨_, rfl, ?_⟩
    rw [show decide (ws' = ws') = true from by simp]
    repeat (first | (first | refine W_seq ?_ | refine W_block ?_ | refine W_region ?_ | refine W_skip ?_ | refine W_ret ?_ | refine W_exit ?_) | ((first | apply L_bin | apply L_notop); first | (refine lT ?_ ?_; (first | exact rfl | exact decide_eq_true rfl | (simp; done))) | (refine lF ?_ ?_; (first | exact rfl | exact decide_eq_true rfl | (simp; done)))) | (first | refine L_nil ?_ | (apply L_plain; first | (apply L_go; first | refine lP ?_ | (refine lPg ?_; intro w hw)) | (apply L_mf; refine lMakeFunc ?_) | refine lY ?_) | (apply L_guarded; first | refine lGT ?_ (hct := rfl) | refine lGF ?_ (hct := rfl) | (apply L_go; refine lPG ?_) | refine lG ?_)) | (refine lAlloc ?_; intro _ w hw) | (refine lBox ?_; intro _ w hw) | (refine lStore ?_; intro w hw))
    refine W_cond rfl (fun h => by simp at h) (fun _ => ?_)
    repeat (first | (first | refine W_seq ?_ | refine W_block ?_ | refine W_region ?_ | refine W_skip ?_ | refine W_ret ?_ | refine W_exit ?_) | (first | refine L_nil ?_ | (apply L_plain; first | (apply L_go; first | refine lP ?_ | (refine lPg ?_; intro w hw)) | (apply L_mf; refine lMakeFunc ?_) | refine lY ?_) | (apply L_guarded; first | refine lGT ?_ | refine lGF ?_ | (apply L_go; refine lPG ?_) | refine lG ?_)))
    exact ⟨μ - 1, by omega, k + 1, m', ws', ys, vs', v1', v2', _ :: _ :: _ :: _ :: S3, by omega, ⟨rfl, rfl, rfl, rfl, trivial⟩, hI', hV', h2', hw.ps [4, 4, 4, 7, 7, 7]⟩
  · clear h hk hρ
    have hsl := sorted_len h2
    have hml := hI.ml
    repeat (first | (first | refine W_seq ?_ | refine W_block ?_ | refine W_region ?_ | refine W_skip ?_ | refine W_ret ?_ | refine W_exit ?_) | (first | refine L_nil ?_ | (apply L_plain; first | (apply L_go; first | refine lP ?_ | (refine lPg ?_; intro w hw)) | (apply L_mf; refine lMakeFunc ?_) | refine lY ?_) | (apply L_guarded; first | refine lGT ?_ | refine lGF ?_ | (apply L_go; refine lPG ?_) | refine lG ?_)))
    refine lCall ?_
    refine (sFacts_any Γ _ w b bm vs m ws ss hI h2 hw).mono ?_
    rintro e w ⟨vf, Γ1, fs, rfl, hle1, hok1, hfs1, hw⟩
    refine ⟨_, rfl, ?_⟩
    repeat (first | (first | refine W_seq ?_ | refine W_block ?_ | refine W_region ?_ | refine W_skip ?_ | refine W_ret ?_ | refine W_exit ?_) | (first | refine L_nil ?_ | (apply L_plain; first | (apply L_go; first | refine lP ?_ | (refine lPg ?_; intro w hw)) | (apply L_mf; refine lMakeFunc ?_) | refine lY ?_) | (apply L_guarded; first | refine lGT ?_ | refine lGF ?_ | (apply L_go; refine lPG ?_) | refine lG ?_)))
    refine lCall ?_
    refine (rFacts_any Γ1 _ w r v1 v2 ss ws (by omega) (hw.ps [6, 6, 6])).mono ?_
    rintro e w ⟨vg, Γ2, gs, rfl, hle2, hok2, hfs2, hw⟩
    rw [setF_strict (facts_strict hfs2 (sorted_strict hI h2))] at hw
    refine ⟨_, rfl, ?_⟩
    repeat (first | (first | refine W_seq ?_ | refine W_block ?_ | refine W_region ?_ | refine W_skip ?_ | refine W_ret ?_ | refine W_exit ?_) | (first | refine L_nil ?_ | (apply L_plain; first | (apply L_go; first | refine lP ?_ | (refine lPg ?_; intro w hw)) | (apply L_mf; refine lMakeFunc ?_) | refine lY ?_) | (apply L_guarded; first | refine lGT ?_ | refine lGF ?_ | (apply L_go; refine lPG ?_) | refine lG ?_)))
    refine lCall ?_
    refine (Same_own Γ2 _ w vf vg fs gs (fun f hf => (hok1 f hf).mono hle2) hok2 (hw.ps [0, 4])).mono ?_
    rintro e w ⟨rfl, hw⟩
    refine ⟨_, rfl, ?_⟩
    rw [show decide (fs.map FactH.fact = gs.map FactH.fact) = true from by simp [hfs1, hfs2]]
    have hw : Wd Γ2 (S1 ++ S) w := by repeat (first | exact hw | replace hw := hw.drop)
    repeat (first | (first | refine W_seq ?_ | refine W_block ?_ | refine W_region ?_ | refine W_skip ?_ | refine W_ret ?_ | refine W_exit ?_) | ((first | apply L_bin | apply L_notop); first | (refine lT ?_ ?_; (first | exact rfl | exact decide_eq_true rfl | (simp; done))) | (refine lF ?_ ?_; (first | exact rfl | exact decide_eq_true rfl | (simp; done)))) | (first | refine L_nil ?_ | (apply L_plain; first | (apply L_go; first | refine lP ?_ | (refine lPg ?_; intro w hw)) | (apply L_mf; refine lMakeFunc ?_) | refine lY ?_) | (apply L_guarded; first | refine lGT ?_ (hct := rfl) | refine lGF ?_ (hct := rfl) | (apply L_go; refine lPG ?_) | refine lG ?_)) | (refine lAlloc ?_; intro _ w hw) | (refine lBox ?_; intro _ w hw) | (refine lStore ?_; intro w hw))
    refine lCall ?_
    refine (awake_any Γ2 _ w hw).mono ?_
    rintro e w ⟨rfl, S', hw⟩
    refine ⟨_, rfl, ?_⟩
    repeat (first | (first | refine W_seq ?_ | refine W_block ?_ | refine W_region ?_ | refine W_skip ?_ | refine W_ret ?_ | refine W_exit ?_) | ((first | apply L_bin | apply L_notop); first | (refine lT ?_ ?_; (first | exact rfl | exact decide_eq_true rfl | (simp; done))) | (refine lF ?_ ?_; (first | exact rfl | exact decide_eq_true rfl | (simp; done)))) | (first | refine L_nil ?_ | (apply L_plain; first | (apply L_go; first | refine lP ?_ | (refine lPg ?_; intro w hw)) | (apply L_mf; refine lMakeFunc ?_) | refine lY ?_) | (apply L_guarded; first | refine lGT ?_ (hct := rfl) | refine lGF ?_ (hct := rfl) | (apply L_go; refine lPG ?_) | refine lG ?_)) | (refine lAlloc ?_; intro _ w hw) | (refine lBox ?_; intro _ w hw) | (refine lStore ?_; intro w hw))
    exact ⟨_, rfl, rfl, Γ2, S' ++ S1, hle1.trans hle2, hw.sa⟩
end Go.Proofs.YtekdbdhkpolooaaGreat
end
