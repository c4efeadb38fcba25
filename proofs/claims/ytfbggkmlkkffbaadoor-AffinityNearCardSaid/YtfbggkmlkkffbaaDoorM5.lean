/- Texts of this proof, one behind another. -/
import Derived.Test.YtfbggkmlkkffbaaDoorM4
set_option linter.unusedVariables false
set_option linter.unusedSimpArgs false
/- Chapter 07: AffinityNear, walked (expanded by mac.py from src/A16.t). -/
section
open Go Mk
namespace Go.Proofs.YtfbggkmlkkffbaaDoor
set_option maxHeartbeats 64000000
attribute [local irreducible] Calls
attribute [local irreducible] matL
def cntI (D : Mx) (cs : List CoreT) (mm : MemT) (p : Nat) : Nat := ((blkOf D cs mm).filter fun x => decide (x.1 = p)).length
set_option maxRecDepth 8000 in
theorem AffinityNear_any {Γ : Gho} [hBr : BrG Γ] {S : List Res} {w : World} {a ap : Option Addr} {m c np cp : Nat} {L PK : List Int} {wh : Int} (hr : RepS Γ (.slice a m c) 1 (intRows L)) (hp : RepS Γ (.slice ap np cp) 1 (intRows PK)) (hw : Wd Γ S w) :
    Calls Tryd.prog 4 #[.slice a m c, .slice ap np cp, .int .i64 wh] w fun e w' => ∃ Γ', Γ.le Γ' ∧ e = .returned (.bool true) ∧ Wd Γ' S w' := by
  obtain ⟨hnp, hncp, hccp⟩ := rep_facts hp
  obtain ⟨hnr, hncr, hccr⟩ := rep_facts hr
  have hnp : np = PK.length := by simpa [intRows] using hnp
  have hnr : m = L.length := by simpa [intRows] using hnr
  refine calls_of_W Tryd.func4 rfl rfl ?_
  repeat (first | refine byW ?_ | (refine byV ?_; intro w hw))
  refine W_cond rfl (fun h => ?_) (fun h => ?_)
  · repeat (first | refine byW ?_ | (refine byV ?_; intro w hw))
    exact ⟨_, rfl, Γ, .refl _, rfl, hw⟩
  have hLs : ¬ (200 < (m : Int) ∨ 40 < (np : Int)) := by simpa using h
  clear h
  repeat (first | refine byW ?_ | (refine byV ?_; intro w hw))
  refine lCall ((Hardware_any hr hw).mono fun r w hq => ?_)
  clear hw
  obtain ⟨Γ1, H, u, nodes, sh, first, irq, hle1, rfl, hG, ho⟩ := hq
  refine ⟨_, rfl, ?_⟩
  have hv := gen_valid hG
  have hSz := gen_sz hG
  have hWd := gen_wide hG
  have hnc := hG.nc
  have hnm := hG.nm'
  have hp1 := hp.mono hle1
  have hBr1 : BrG Γ1 := hBr.mono hle1
  obtain ⟨Γ2, hle2, hR, hw⟩ := ho.freeze (gen_sz hG)
  clear ho hr
  obtain ⟨a1, n1, c1, a2, n2, c2, a3, n3, c3, a4, n4, c4, a5, n5, c5, cs', rfl, hcs, hok, hsz, r1, r2, r3, r4, r5⟩ := hR.h
  obtain ⟨hn1, hnc1, hcc1⟩ := rep_facts r1
  obtain ⟨hn4, hnc4, hcc4⟩ := rep_facts r4
  simp only [List.length_map] at hn1 hn4
  repeat (first | refine byW ?_ | (refine byV ?_; intro w hw))
  refine lAlloc ?_
  intro b5 w hw
  refine lStore ?_
  intro w hw
  have hw : Wd Γ2 (.blk b5 (hwC H a1 n1 c1 a2 n2 c2 a3 n3 c3 a4 n4 c4 a5 n5 c5) :: S) w := hw
  repeat (first | refine byW ?_ | (refine byV ?_; intro w hw))
  refine lCall ((IDs_any (xs := H.Cores) (nm := H.Name) (RepS.rdS r1) (by omega) hw).mono fun e w hq => ?_)
  clear hw
  obtain ⟨vi, rfl, hw⟩ := hq
  refine ⟨_, rfl, ?_⟩
  obtain ⟨ai, ni, ci, rfl, hni, hnci, hcci⟩ := hw.own_shape (i := 0) rfl
  have hni : ni = H.Cores.length := by simpa [intRows] using hni
  obtain ⟨Γ3, hle3, q1, hw1⟩ := hw.freeze
  clear hw
  have hw := hw1
  clear hw1
  repeat (first | refine byW ?_ | (refine byV ?_; intro w hw))
  refine lCall ((Subset_any q1 ((hp1.mono hle2).mono hle3) (by simp; omega) (by omega) hw).mono fun e w hq => ?_)
  clear hw
  obtain ⟨vl, rfl, hw⟩ := hq
  refine ⟨_, rfl, ?_⟩
  obtain ⟨rest, hrest⟩ := subF_perm PK PK.length 0 (H.Cores.map (·.ID))
  have hlvl : (subF PK PK.length 0 (H.Cores.map (·.ID))).length ≤ 40 := Nat.le_trans (subF_len _ _ _ _) (by omega)
  generalize subF PK PK.length 0 (H.Cores.map (·.ID)) = LV at *
  obtain ⟨al, nl, cl, rfl, hnl, hncl, hccl⟩ := hw.own_shape (i := 0) rfl
  have hnl : nl = LV.length := by simpa [intRows] using hnl
  obtain ⟨Γ4, hle4, rl, hw1⟩ := hw.freeze
  clear hw
  have hw : Wd Γ4 (.blk b5 (hwC H a1 n1 c1 a2 n2 c2 a3 n3 c3 a4 n4 c4 a5 n5 c5) :: S) w := hw1
  clear hw1
  have hR4 := hR.mono (hle3.trans hle4)
  haveI hBr4 : BrG Γ4 := hBr1.mono (hle2.trans (hle3.trans hle4))
  have r4 := r4.mono (hle3.trans hle4)
  have hle : Γ.le Γ4 := hle1.trans (hle2.trans (hle3.trans hle4))
  have hlive := live_ok hv hrest
  clear hle1 hle2 hle3 hle4 hBr1 hp1 q1 hBr
  repeat (first | refine byW ?_ | (refine byV ?_; intro w hw))
  refine lCall ((pools_core (hh := hR4) hWd rl (by omega) hw).mono fun e w hq => ?_)
  clear hw
  obtain ⟨Γ5, v7, hle5, rfl, hq⟩ := hq
  refine ⟨_, rfl, ?_⟩
  rw [hlive] at hq ⊢
  clear hlive
  have r45 := r4.mono hle5
  by_cases hLV : LV = []
  · rw [if_pos hLV] at hq ⊢
    rcases hq with ⟨-, rfl, hw⟩ | ⟨h, -⟩
    · have hnl0 : nl = 0 := by rw [hnl, hLV]; rfl
      subst hnl0
      haveI : BrG Γ5 := hBr4.mono hle5
      repeat (first | (first | refine W_seq ?_ | refine W_block ?_ | refine W_region ?_ | refine W_skip ?_ | refine W_ret ?_ | refine W_exit ?_) | ((first | apply L_bin | apply L_notop); first | (refine lT ?_ ?_; (first | exact rfl | exact decide_eq_true rfl | (simp; done))) | (refine lF ?_ ?_; (first | exact rfl | exact decide_eq_true rfl | (simp; done)))) | (first | refine L_nil ?_ | (apply L_plain; first | (apply L_go; first | refine lP ?_ | (refine lPg ?_; intro w hw)) | (apply L_mf; refine lMakeFunc ?_) | refine lY ?_) | (apply L_guarded; first | refine lGT ?_ | refine lGF ?_ | (apply L_go; first | refine lPG ?_ | (refine lPgG ?_; intro w hw)) | refine lG ?_)) | (refine lAlloc ?_; intro _ w hw) | (refine lBox ?_; intro _ w hw) | (refine lStore ?_; intro w hw))
      refine W_cond_true rfl ?_
      repeat (first | (first | refine W_seq ?_ | refine W_block ?_ | refine W_region ?_ | refine W_skip ?_ | refine W_ret ?_ | refine W_exit ?_) | ((first | apply L_bin | apply L_notop); first | (refine lT ?_ ?_; (first | exact rfl | exact decide_eq_true rfl | (simp; done))) | (refine lF ?_ ?_; (first | exact rfl | exact decide_eq_true rfl | (simp; done)))) | (first | refine L_nil ?_ | (apply L_plain; first | (apply L_go; first | refine lP ?_ | (refine lPg ?_; intro w hw)) | (apply L_mf; refine lMakeFunc ?_) | refine lY ?_) | (apply L_guarded; first | refine lGT ?_ | refine lGF ?_ | (apply L_go; first | refine lPG ?_ | (refine lPgG ?_; intro w hw)) | refine lG ?_)) | (refine lAlloc ?_; intro _ w hw) | (refine lBox ?_; intro _ w hw) | (refine lStore ?_; intro w hw))
      exact ⟨_, rfl, Γ5, hle.trans hle5, rfl, hw.drop⟩
    · exact absurd h (by decide)
  rw [if_neg hLV] at hq ⊢
  simp only at hq ⊢
  rcases hq with ⟨h, -⟩ | ⟨-, n, a9, vs, B, rfl, hn, hvs, hB, hw⟩
  · exact absurd rfl h
  have hlc := live_cores hv hrest rfl
  obtain ⟨hcl, hcm, hci, hca⟩ := hlc
  have hfind : ∀ id ∈ LV, (findC H.Cores id).2 = true := fun id hid => find_of_id (hrest.mem_iff.1 (List.mem_append_left _ hid))
  have hLVc : ∀ id ∈ LV, ∃ i, i < n ∧ ((sortZ LV).map fun id => (findC H.Cores id).1)[i]? = some (findC H.Cores id).1 := fun id hid => by
    obtain ⟨i, hi, he⟩ := List.getElem_of_mem ((sortZ_perm LV).mem_iff.2 hid)
    refine ⟨i, by rw [hn, List.length_map]; exact hi, ?_⟩
    rw [List.getElem?_map, List.getElem?_eq_getElem hi, he]; rfl
  have hcLV : ∀ (i : Nat) (c : CoreT), ((sortZ LV).map fun id => (findC H.Cores id).1)[i]? = some c → ∃ id ∈ LV, (findC H.Cores id).1 = c ∧ c.ID = id := fun i c hc => by
    rw [List.getElem?_map] at hc
    cases hq : (sortZ LV)[i]? with
    | none => rw [hq] at hc; cases hc
    | some id =>
      rw [hq] at hc
      simp only [Option.map_some, Option.some.injEq] at hc
      have hid := (sortZ_perm LV).mem_iff.1 (List.mem_of_getElem? hq)
      exact ⟨id, hid, hc, by rw [← hc]; exact (findC_in (hfind id hid)).2⟩
  generalize (sortZ LV).map (fun id => (findC H.Cores id).1) = cs at *
  obtain ⟨Γ6, hle6, hF, hw1⟩ := pools_freeze hw
  clear hw
  have hw := hw1
  clear hw1
  haveI hBr6 : BrG Γ6 := hBr4.mono (hle5.trans hle6)
  haveI hR6 := hR4.mono (hle5.trans hle6)
  have r4 := r4.mono (hle5.trans hle6)
  have rl := rl.mono (hle5.trans hle6)
  have hle : Γ.le Γ6 := hle.trans (hle5.trans hle6)
  have hpos : 0 < LV.length := Nat.pos_of_ne_zero fun e => hLV (List.eq_nil_of_length_eq_zero e)
  have hBlen := hB.len
  have hpw : ∀ m ∈ H.Mems, ∃ e, MemP m e := fun m hm => mem_pow hv hWd hm
  clear hle5 hle6 hBr4 r45
  have rp := hF.out
  repeat (first | refine byW ?_ | (refine byV ?_; intro w hw))
  refine W_cond rfl (fun h => ?_) (fun h => ?_)
  · have hb1 : decide ((nl : Int) > 0) = true := decide_eq_true (by omega)
    have hb2 : decide (0 < (nl : Int)) = true := decide_eq_true (by omega)
    repeat (first | (first | refine W_seq ?_ | refine W_block ?_ | refine W_region ?_ | refine W_skip ?_ | refine W_ret ?_ | refine W_exit ?_) | ((first | apply L_bin | apply L_notop); first | (refine lT ?_ ?_; (first | exact rfl | exact decide_eq_true rfl | exact hb1 | exact hb2 | exact hb3 | exact hb4 | (focus (simp; done)))) | (refine lF ?_ ?_; (first | exact rfl | exact decide_eq_true rfl | exact hb1 | exact hb2 | exact hb3 | exact hb4 | (focus (simp; done))))) | (first | refine L_nil ?_ | (apply L_plain; first | (apply L_go; first | refine lP ?_ | (refine lPg ?_; intro w hw)) | (apply L_mf; refine lMakeFunc ?_) | refine lY ?_) | (apply L_guarded; first | refine lGT ?_ (hct := rfl) | refine lGF ?_ (hct := rfl) | (apply L_go; first | refine lPG ?_ | (refine lPgG ?_; intro w hw)) | refine lG ?_)) | (refine lAlloc ?_; intro _ w hw) | (refine lBox ?_; intro _ w hw) | (refine lStore ?_; intro w hw))
    exact ⟨_, rfl, Γ6, hle, rfl, hw.drop⟩
  have h4p : ¬ nl = 0 ∧ ¬ n4 = 0 := by simpa using h
  clear h
  obtain ⟨km, hkm, p1⟩ := place_at (x := wh) (n := n4) (by omega) (by omega)
  obtain ⟨mm, hmm⟩ := get_lt (l := H.Mems) (k := km) (by omega)
  have hmmm := List.mem_of_getElem? hmm
  obtain ⟨em, hem⟩ := hpw mm hmmm
  repeat (first | refine byW ?_ | (refine byV ?_; intro w hw))
  refine W_mixE 1 [[],[],[],[],[],[],[],[],[],[0],[0]] [[],[],[],[],[],[],[],[],[],[0],[0]] [[11]] ?_ (hw := hw)
  repeat (first | refine mY ?_ | refine mP ?_ | refine mPg ?_)
  refine mAlloc ?_
  refine mStoreAt ?_
  refine mEndAt ?_
  clear hw
  intro b11 w hw
  have hw : Wd Γ6 (.blk b11 (.cells (enc mm).toArray 46) :: .blk b5 (hwC H a1 n1 c1 a2 n2 c2 a3 n3 c3 a4 n4 c4 a5 n5 c5) :: S) w := hw
  have hcan : ∀ c ∈ cs, Can (dstF H) c mm := fun c hc => can_of hv (hcm c hc) hmmm
  have hcost : ∀ id, (findC H.Cores id).2 = true → PG Tryd.prog Γ6 11 [.agg #[.string H.Name, .slice a1 n1 c1, .slice a2 n2 c2, .slice a3 n3 c3, .slice a4 n4 c4, .slice a5 n5 c5], .int .i64 id, .string mm.Name] (.tuple #[.int .i64 (costM (dstF H) (findC H.Cores id).1 mm), .int .i64 0]) := fun id hf => by
    have := pg_Cost (hh := hR6) id mm.Name
    rwa [costS_at hv hmm hf] at this
  obtain ⟨hle0, hni0, hlc0⟩ := near_iff (D := dstF H) (m := mm) hcan (by omega)
  have hcntc : ∀ (i : Nat) (b : List RangeT), B[i]? = some b → cntM mm b = cntI (dstF H) cs mm i := fun i b hb => cnt_core hv hpw hmm (hB.perm i b hb)
  have hBlk : ∀ (i : Nat) (b : List RangeT), B[i]? = some b → ∀ x ∈ b, BlkP x := fun i b hb x hx => by
    have h1 := (hB.perm i b hb).mem_iff.1 hx
    unfold ofC at h1
    obtain ⟨p, hp, rfl⟩ := List.mem_map.1 h1
    exact (all_in hpw (List.mem_filter.1 hp).1).1
  have hBll : ∀ (i : Nat) (b : List RangeT), B[i]? = some b → b.length ≤ 8000 := fun i b hb => by
    rw [(hB.perm i b hb).length_eq]
    have h1 := blks_len (D := dstF H) (cs := cs) H.Mems hpw (by omega)
    unfold ofC
    rw [List.length_map]
    have h2 := List.length_filter_le (fun p : Blk => decide (p.1 = i)) (H.Mems.flatMap (blkOf (dstF H) cs))
    omega
  have hub : ∀ p, cntI (dstF H) cs mm p ≤ 2000 := fun p => by
    have a1 := cut_lt (D := dstF H) hem (by omega : cs.length ≤ 1000)
    have a3 : (blkOf (dstF H) cs mm).length = cutN mm (nearL (dstF H) cs mm).length := by unfold blkOf; simp
    have h2 := List.length_filter_le (fun x : Blk => decide (x.1 = p)) (blkOf (dstF H) cs mm)
    unfold cntI; omega
  have hshare : ∀ p q, p ∈ nearL (dstF H) cs mm → q ∈ nearL (dstF H) cs mm → cntI (dstF H) cs mm p ≤ cntI (dstF H) cs mm q + 1 := fun p q hp hq => by
    obtain ⟨r, hr⟩ := List.mem_iff_getElem?.1 hp
    obtain ⟨s, hs⟩ := List.mem_iff_getElem?.1 hq
    unfold cntI
    rw [cnt_share hr, cnt_share hs]
    exact shareN_near (List.getElem?_eq_some_iff.1 hr).1 (List.getElem?_eq_some_iff.1 hs).1
  have hnp := near_pos (D := dstF H) (m := mm) (cs := cs) (by omega) hcan
  have hfirst : ∃ p ∈ nearL (dstF H) cs mm, p < n ∧ 1 ≤ cntI (dstF H) cs mm p := by
    obtain ⟨p, hp⟩ := get_lt (l := nearL (dstF H) cs mm) (k := 0) hnp
    refine ⟨p, List.mem_of_getElem? hp, by have := candR_lt _ p (List.mem_of_getElem? hp); omega, ?_⟩
    unfold cntI
    rw [cnt_share hp, shareN_eq hnp _ _ hnp]
    obtain ⟨jj, -, hj2, -⟩ := cut_pow hem (nearL (dstF H) cs mm).length
    have h1 : 0 < cutN mm (nearL (dstF H) cs mm).length := by rw [hj2]; exact Nat.pow_pos (by omega)
    have h2 := Nat.div_add_mod (cutN mm (nearL (dstF H) cs mm).length) (nearL (dstF H) cs mm).length
    by_cases h3 : 0 < cutN mm (nearL (dstF H) cs mm).length % (nearL (dstF H) cs mm).length
    · rw [if_pos h3]; exact Nat.le_add_left _ _
    · rw [if_neg h3]
      have h4 : 0 < cutN mm (nearL (dstF H) cs mm).length / (nearL (dstF H) cs mm).length := by
        refine Nat.pos_of_ne_zero fun e => ?_
        rw [e, Nat.mul_zero] at h2; omega
      exact h4
  have hnone : ∀ p, p ∉ nearL (dstF H) cs mm → cntI (dstF H) cs mm p = 0 := fun p hp => cnt_none hnp hp
  have hcI : ∀ (i : Nat) (c : CoreT), cs[i]? = some c → costI (dstF H) cs mm i = costM (dstF H) c mm := fun i c hc => by unfold costI; simp [hc]
  have hleLV : ∀ id ∈ LV, (candR (costI (dstF H) cs mm) cs.length).1 ≤ costM (dstF H) (findC H.Cores id).1 mm := fun id hid => by
    obtain ⟨i, hi, hc⟩ := hLVc id hid
    have := hle0 i (by omega)
    rw [hcI i _ hc] at this; exact this
  have hexLV : ∃ id ∈ LV, costM (dstF H) (findC H.Cores id).1 mm = (candR (costI (dstF H) cs mm) cs.length).1 := by
    obtain ⟨p, hp, hpn, -⟩ := hfirst
    obtain ⟨c, hc⟩ := get_lt (l := cs) (k := p) (by omega)
    obtain ⟨id, hid, he, -⟩ := hcLV p c hc
    exact ⟨id, hid, by rw [he, ← hcI p c hc]; exact ((hni0 p).1 hp).2⟩
  have hcp : ∀ c ∈ cs, 0 ≤ costM (dstF H) c mm := fun c hc => by
    have h1 := (hcan c hc).d; have h2 := (hcan c hc).l
    unfold costM; omega
  generalize hlc : (candR (costI (dstF H) cs mm) cs.length).1 = lc at *
  generalize dstF H = D at *
  clear hcan hB
  repeat (first | refine byW ?_ | (refine byV ?_; intro w hw))
  refine W_loop (fun μ ρ w => ∃ (i : Nat) (le : Int), μ + i = nl ∧ ((i = 0 ∧ le = -1) ∨ (0 < i ∧ 0 ≤ le ∧ (∀ (j : Nat) (id : Int), j < i → LV[j]? = some id → le ≤ costM D (findC H.Cores id).1 mm) ∧ ∃ (j : Nat) (id : Int), j < i ∧ LV[j]? = some id ∧ le = costM D (findC H.Cores id).1 mm)) ∧ Has ρ [(7, .pointer (some ⟨b5, 0, none⟩)), (8, .slice al nl cl), (9, .slice (some a9) n n), (10, .int .i64 0), (11, .pointer (some ⟨b11, 0, none⟩)), (12, .int .i64 le), (13, .int .i64 i)] ∧ Wd Γ6 (.blk b11 (.cells (enc mm).toArray 46) :: .blk b5 (hwC H a1 n1 c1 a2 n2 c2 a3 n3 c3 a4 n4 c4 a5 n5 c5) :: S) w) nl ⟨0, -1, by omega, .inl ⟨rfl, rfl⟩, ⟨rfl, rfl, rfl, rfl, rfl, rfl, rfl, trivial⟩, hw⟩ ?_
  clear hw
  rintro μ ρ w ⟨i, le, hi, hor, hρ, hw⟩
  rw [hρ.eq]
  clear hρ
  repeat (first | refine byW ?_ | (refine byV ?_; intro w hw))
  refine W_cond rfl (fun h => ?_) (fun h => ?_)
  · have hin : i < nl := by have := of_decide_eq_true h; omega
    clear h
    obtain ⟨id, hid⟩ := get_lt (l := LV) (k := i) (by omega)
    have hidm := List.mem_of_getElem? hid
    haveI := hcost id (hfind id hidm)
    have hcid : 0 ≤ costM D (findC H.Cores id).1 mm := by
      obtain ⟨j, hj, hc⟩ := hLVc id hidm
      exact hcp _ (List.mem_of_getElem? hc)
    generalize hce : costM D (findC H.Cores id).1 mm = ce at *
    repeat (first | refine byW ?_ | (refine byV ?_; intro w hw))
    refine W_quiet (by kernel_rfl) (by kernel_rfl) hw ?_
    repeat (first | refine Q_nil ?_ | (apply Q_plain; first | (apply Q_go; first | refine qP ?_ | refine qPg ?_) | refine qY ?_) | (apply Q_guarded; first | (apply Q_go; first | refine qPG ?_ | refine qPgG ?_) | refine qG ?_))
    intro w hw
    repeat (first | refine byW ?_ | (refine byV ?_; intro w hw))
    refine W_cond_false rfl ?_
    repeat (first | refine byW ?_ | (refine byV ?_; intro w hw))
    refine W_cond rfl (fun h => ?_) (fun h => ?_)
    · have h : le < 0 ∨ ce < le := by simpa using h
      repeat (first | refine byW ?_ | (refine byV ?_; intro w hw))
      refine ⟨μ - 1, by omega, i + 1, ce, by omega, .inr ⟨by omega, hcid, fun j id' hj hj' => ?_, i, id, by omega, hid, hce.symm⟩, ⟨rfl, rfl, rfl, rfl, rfl, rfl, rfl, trivial⟩, hw⟩
      by_cases e : j = i
      · subst e; rw [hid] at hj'; cases hj'; omega
      · rcases hor with ⟨h1, -⟩ | ⟨-, h2, h3, -⟩
        · omega
        · have := h3 j id' (by omega) hj'; omega
    · have h : ¬ (le < 0 ∨ ce < le) := by simpa using h
      repeat (first | refine byW ?_ | (refine byV ?_; intro w hw))
      refine ⟨μ - 1, by omega, i + 1, le, by omega, ?_, ⟨rfl, rfl, rfl, rfl, rfl, rfl, rfl, trivial⟩, hw⟩
      rcases hor with ⟨-, h1⟩ | ⟨h1, h2, h3, j, id2, h4, h5, h6⟩
      · omega
      · refine .inr ⟨by omega, h2, fun j id' hj hj' => ?_, j, id2, by omega, h5, h6⟩
        by_cases e : j = i
        · subst e; rw [hid] at hj'; cases hj'; omega
        · exact h3 j id' (by omega) hj'
  have hin : nl = i := by have := of_decide_eq_false h; omega
  have hle1 : le = lc := by
    rcases hor with ⟨h1, -⟩ | ⟨-, -, h3, j, id2, h4, h5, h6⟩
    · omega
    · obtain ⟨id, hid, he⟩ := hexLV
      obtain ⟨k, hk⟩ := List.mem_iff_getElem?.1 hid
      have g1 := h3 k id (by have := (List.getElem?_eq_some_iff.1 hk).1; omega) hk
      have g2 := hleLV id2 (List.mem_of_getElem? h5)
      omega
  subst hle1
  clear h hi hor hexLV hleLV
  repeat (first | refine byW ?_ | (refine byV ?_; intro w hw))
  refine W_loop (fun μ ρ w => ∃ (i : Nat) (lo hi : Int), μ + i = n ∧ ((lo = -1 ∧ hi = 0 ∧ ∀ j, j < i → j ∉ nearL D cs mm) ∨ ∃ p q, p ∈ nearL D cs mm ∧ q ∈ nearL D cs mm ∧ lo = cntI D cs mm p ∧ hi = cntI D cs mm q ∧ ∀ j, j < i → j ∈ nearL D cs mm → lo ≤ cntI D cs mm j ∧ (cntI D cs mm j : Int) ≤ hi) ∧ Has ρ [(7, .pointer (some ⟨b5, 0, none⟩)), (8, .slice al nl cl), (9, .slice (some a9) n n), (10, .int .i64 0), (11, .pointer (some ⟨b11, 0, none⟩)), (12, .int .i64 le), (16, .int .i64 lo), (17, .int .i64 hi), (18, .int .i64 i)] ∧ Wd Γ6 (.blk b11 (.cells (enc mm).toArray 46) :: .blk b5 (hwC H a1 n1 c1 a2 n2 c2 a3 n3 c3 a4 n4 c4 a5 n5 c5) :: S) w) n ⟨0, -1, 0, by omega, .inl ⟨rfl, rfl, fun j h => by omega⟩, ⟨rfl, rfl, rfl, rfl, rfl, rfl, rfl, rfl, rfl, trivial⟩, hw⟩ ?_
  clear hw
  rintro μ ρ w ⟨i, lo, hi, hμ, hor, hρ, hw⟩
  rw [hρ.eq]
  clear hρ
  repeat (first | refine byW ?_ | (refine byV ?_; intro w hw))
  refine W_cond rfl (fun h => ?_) (fun h => ?_)
  · have hin : i < n := by have := of_decide_eq_true h; omega
    clear h
    obtain ⟨ci, hci1⟩ := get_lt (l := cs) (k := i) (by omega)
    obtain ⟨vi, hvi⟩ := get_lt (l := vs) (k := i) (by omega)
    obtain ⟨bi, hbi⟩ := get_lt (l := B) (k := i) (by omega)
    obtain ⟨idc, hidc, hidc2, hidc3⟩ := hcLV i ci hci1
    haveI := hcost idc (hfind idc hidc)
    rw [hidc2, ← hidc3] at this
    have hcc := hcntc i bi hbi
    have hblk := hBlk i bi hbi
    have hni := hni0 i
    have hIi := hcI i ci hci1
    have hlei := hle0 i (by omega)
    rw [hIi] at hlei hni
    have hnonei := hnone i
    obtain ⟨ab, nb, cb, rfl, hnb, -, -⟩ := (hF.inn i vi bi hvi hbi).shape
    have hrb := hF.inn i _ bi hvi hbi
    simp only [List.length_map] at hnb
    have hmb := hem.base
    have hmf := hem.fin
    have hms : 0 ≤ mm.Size := by rw [hem.size]; exact Int.natCast_nonneg _
    have hme : IntKind.u64.wrap (mm.Base + mm.Size) = mm.Base + mm.Size := wrapU (by omega) (by omega)
    have hnbb : nb ≤ 8000 := by have := hBll i bi hbi; omega
    generalize hce : costM D ci mm = ce at *
    repeat (first | refine byW ?_ | (refine byV ?_; intro w hw))
    refine W_loop (fun μ2 ρ w => ∃ (k : Nat), μ2 + k = nb ∧ Has ρ [(7, .pointer (some ⟨b5, 0, none⟩)), (8, .slice al nl cl), (9, .slice (some a9) n n), (10, .int .i64 0), (11, .pointer (some ⟨b11, 0, none⟩)), (12, .int .i64 le), (16, .int .i64 lo), (17, .int .i64 hi), (18, .int .i64 i), (19, .int .i64 (cntM mm (bi.take k) : Nat)), (20, .int .i64 k)] ∧ Wd Γ6 (.blk b11 (.cells (enc mm).toArray 46) :: .blk b5 (hwC H a1 n1 c1 a2 n2 c2 a3 n3 c3 a4 n4 c4 a5 n5 c5) :: S) w) nb ⟨0, by omega, ⟨rfl, rfl, rfl, rfl, rfl, rfl, rfl, rfl, rfl, rfl, rfl, trivial⟩, hw⟩ ?_
    clear hw
    rintro μ2 ρ w ⟨k, hk, hρ, hw⟩
    rw [hρ.eq]
    clear hρ
    have hck : cntM mm (bi.take k) ≤ k := by
      unfold cntM
      have h1 := List.length_filter_le (inMB mm) (bi.take k)
      have h2 := List.length_take_le k bi
      omega
    repeat (first | refine byW ?_ | (refine byV ?_; intro w hw))
    refine lY (v := .slice ab nb cb) ?_ (hy := y_loadEf rfl (rp.rd hw) (poolsR_get hci1 hvi) rfl)
    repeat (first | refine byW ?_ | (refine byV ?_; intro w hw))
    refine W_cond rfl (fun h => ?_) (fun h => ?_)
    · have hkn : k < nb := by have := of_decide_eq_true h; omega
      clear h
      obtain ⟨x, hx⟩ := get_lt (l := bi) (k := k) (by omega)
      have hxP := hblk x (List.mem_of_getElem? hx)
      have hxb := hxP.base
      have hxt := hxP.top
      have hxs := szR_pos x
      unfold endR at hxt
      have hxw : IntKind.u64.wrap x.Base = x.Base := wrapU (by omega) (by omega)
      have hst : cntM mm (bi.take (k + 1)) = cntM mm (bi.take k) + if inMB mm x = true then 1 else 0 := by
        unfold cntM
        rw [take_succ_of hx, List.filter_append, List.length_append]
        by_cases h : inMB mm x = true
        · rw [if_pos h, List.filter_cons_of_pos h]; rfl
        · rw [if_neg h, List.filter_cons_of_neg h]; rfl
      repeat (first | refine byW ?_ | (refine byV ?_; intro w hw))
      refine lY (v := .slice ab nb cb) ?_ (hy := y_loadEf rfl (rp.rd hw) (poolsR_get hci1 hvi) rfl)
      repeat (first | refine byW ?_ | (refine byV ?_; intro w hw))
      refine W_cond rfl (fun h => ?_) (fun h => ?_)
      · have h : mm.Base ≤ IntKind.u64.wrap x.Base ∧ IntKind.u64.wrap x.Base < IntKind.u64.wrap (mm.Base + mm.Size) := by simpa using h
        rw [hxw, hme] at h
        rw [if_pos (by unfold inMB; simp [h.1, h.2])] at hst
        repeat (first | refine byW ?_ | (refine byV ?_; intro w hw))
        exact ⟨μ2 - 1, by omega, k + 1, by omega, ⟨rfl, rfl, rfl, rfl, rfl, rfl, rfl, rfl, rfl, by rw [hst]; rfl, rfl, trivial⟩, hw⟩
      · have h : ¬ (mm.Base ≤ IntKind.u64.wrap x.Base ∧ IntKind.u64.wrap x.Base < IntKind.u64.wrap (mm.Base + mm.Size)) := fun hh => by simp [hh.1, hh.2] at h
        rw [hxw, hme] at h
        rw [if_neg (by unfold inMB; simp only [Bool.and_eq_true, decide_eq_true_eq]; exact h)] at hst
        repeat (first | refine byW ?_ | (refine byV ?_; intro w hw))
        exact ⟨μ2 - 1, by omega, k + 1, by omega, ⟨rfl, rfl, rfl, rfl, rfl, rfl, rfl, rfl, rfl, by rw [hst]; rfl, rfl, trivial⟩, hw⟩
    have hkn : nb = k := by have := of_decide_eq_false h; omega
    subst hkn
    clear h hk
    rw [List.take_of_length_le (by omega)] at hck
    rw [List.take_of_length_le (by omega), hcc]
    rw [hcc] at hck
    clear hcc hblk
    repeat (first | refine byW ?_ | (refine byV ?_; intro w hw))
    refine W_quiet (by kernel_rfl) (by kernel_rfl) hw ?_
    repeat (first | refine Q_nil ?_ | (apply Q_plain; first | (apply Q_go; first | refine qP ?_ | refine qPg ?_) | refine qY ?_) | (apply Q_guarded; first | (apply Q_go; first | refine qPG ?_ | refine qPgG ?_) | refine qG ?_))
    refine qY (v := .int .i64 ci.ID) ?_ (hy := fun w hw => y_loadEf rfl (rp.rd hw) (poolsR_get hci1 hvi) rfl)
    repeat (first | refine Q_nil ?_ | (apply Q_plain; first | (apply Q_go; first | refine qP ?_ | refine qPg ?_) | refine qY ?_) | (apply Q_guarded; first | (apply Q_go; first | refine qPG ?_ | refine qPgG ?_) | refine qG ?_))
    intro w hw
    have hnear : i ∈ nearL D cs mm ↔ ce = le := ⟨fun h => (hni.1 h).2, fun h => hni.2 ⟨by omega, h⟩⟩
    repeat (first | refine byW ?_ | (refine byV ?_; intro w hw))
    refine W_cond rfl (fun h => ?_) (fun h => ?_)
    · exfalso
      have h : le < ce ∧ 0 < cntI D cs mm i := by simpa using h
      have := hnonei (fun hh => by have := hnear.1 hh; omega)
      omega
    clear h
    repeat (first | refine byW ?_ | (refine byV ?_; intro w hw))
    refine W_cond rfl (fun h => ?_) (fun h => ?_)
    · have h : le < ce := of_decide_eq_true h
      have hnn : i ∉ nearL D cs mm := fun hh => by have := hnear.1 hh; omega
      repeat (first | refine byW ?_ | (refine byV ?_; intro w hw))
      refine ⟨μ - 1, by omega, i + 1, lo, hi, by omega, ?_, ⟨rfl, rfl, rfl, rfl, rfl, rfl, rfl, rfl, rfl, trivial⟩, hw⟩
      rcases hor with ⟨h1, h2, h3⟩ | ⟨p, q, h1, h2, h3, h4, h5⟩
      · refine .inl ⟨h1, h2, fun j hj hjn => ?_⟩
        by_cases e : j = i
        · subst e; exact hnn hjn
        · exact h3 j (by omega) hjn
      · refine .inr ⟨p, q, h1, h2, h3, h4, fun j hj hjn => ?_⟩
        by_cases e : j = i
        · subst e; exact absurd hjn hnn
        · exact h5 j (by omega) hjn
    have hyes : i ∈ nearL D cs mm := hnear.2 (by have := of_decide_eq_false h; omega)
    clear h
    generalize hCi : cntI D cs mm i = Ci at *
    repeat (first | refine byW ?_ | (refine byV ?_; intro w hw))
    refine W_cond rfl (fun h => ?_) (fun h => ?_)
    · have h : lo < 0 ∨ (Ci : Int) < lo := by simpa using h
      repeat (first | refine byW ?_ | (refine byV ?_; intro w hw))
      refine ⟨μ - 1, by omega, i + 1, Ci, if hi < Ci then (Ci : Int) else hi, by omega, .inr ?_, ⟨rfl, rfl, rfl, rfl, rfl, rfl, rfl, rfl, rfl, trivial⟩, hw⟩
      rcases hor with ⟨h1, h2, h3⟩ | ⟨p, q, h1, h2, h3, h4, h5⟩
      · refine ⟨i, i, hyes, hyes, by rw [hCi], by rw [hCi, h2]; split <;> omega, fun j hj hjn => ?_⟩
        by_cases e : j = i
        · subst e; rw [hCi]; split <;> omega
        · exact absurd hjn (h3 j (by omega))
      · by_cases e2 : hi < Ci
        · rw [if_pos e2]
          refine ⟨i, i, hyes, hyes, by rw [hCi], by rw [hCi], fun j hj hjn => ?_⟩
          by_cases e : j = i
          · subst e; rw [hCi]; omega
          · have := h5 j (by omega) hjn; omega
        · rw [if_neg e2]
          refine ⟨i, q, hyes, h2, by rw [hCi], h4, fun j hj hjn => ?_⟩
          by_cases e : j = i
          · subst e; rw [hCi]; omega
          · have := h5 j (by omega) hjn; omega
    · have h : ¬ (lo < 0 ∨ (Ci : Int) < lo) := by simpa using h
      repeat (first | refine byW ?_ | (refine byV ?_; intro w hw))
      refine ⟨μ - 1, by omega, i + 1, lo, if hi < Ci then (Ci : Int) else hi, by omega, .inr ?_, ⟨rfl, rfl, rfl, rfl, rfl, rfl, rfl, rfl, rfl, trivial⟩, hw⟩
      rcases hor with ⟨h1, h2, h3⟩ | ⟨p, q, h1, h2, h3, h4, h5⟩
      · omega
      · by_cases e2 : hi < Ci
        · rw [if_pos e2]
          refine ⟨p, i, h1, hyes, h3, by rw [hCi], fun j hj hjn => ?_⟩
          by_cases e : j = i
          · subst e; rw [hCi]; omega
          · have := h5 j (by omega) hjn; omega
        · rw [if_neg e2]
          refine ⟨p, q, h1, h2, h3, h4, fun j hj hjn => ?_⟩
          by_cases e : j = i
          · subst e; rw [hCi]; omega
          · have := h5 j (by omega) hjn; omega
  have hin : n = i := by have := of_decide_eq_false h; omega
  have hfin : 1 ≤ hi ∧ hi - lo ≤ 1 ∧ 0 ≤ lo ∧ 0 ≤ hi ∧ hi ≤ 2000 ∧ lo ≤ 2000 := by
    obtain ⟨p0, hp0, hp1, hp2⟩ := hfirst
    rcases hor with ⟨h1, h2, h3⟩ | ⟨p, q, h1, h2, h3, h4, h5⟩
    · exact absurd hp0 (h3 p0 (by omega))
    · have g1 := h5 p0 (by omega) hp0
      have g2 := hshare q p h2 h1
      have g3 := hub p
      have g4 := hub q
      omega
  have hb1 : decide (1 ≤ hi) = true := decide_eq_true hfin.1
  have hb2 : decide (hi - lo ≤ 1) = true := decide_eq_true hfin.2.1
  clear h hor
  repeat (first | (first | refine W_seq ?_ | refine W_block ?_ | refine W_region ?_ | refine W_skip ?_ | refine W_ret ?_ | refine W_exit ?_) | ((first | apply L_bin | apply L_notop); first | (refine lT ?_ ?_; (first | exact rfl | exact decide_eq_true rfl | exact hb1 | exact hb2 | exact hb3 | exact hb4 | (focus (simp; done)))) | (refine lF ?_ ?_; (first | exact rfl | exact decide_eq_true rfl | exact hb1 | exact hb2 | exact hb3 | exact hb4 | (focus (simp; done))))) | (first | refine L_nil ?_ | (apply L_plain; first | (apply L_go; first | refine lP ?_ | (refine lPg ?_; intro w hw)) | (apply L_mf; refine lMakeFunc ?_) | refine lY ?_) | (apply L_guarded; first | refine lGT ?_ (hct := rfl) | refine lGF ?_ (hct := rfl) | (apply L_go; first | refine lPG ?_ | (refine lPgG ?_; intro w hw)) | refine lG ?_)) | (refine lAlloc ?_; intro _ w hw) | (refine lBox ?_; intro _ w hw) | (refine lStore ?_; intro w hw))
  exact ⟨_, rfl, Γ6, hle, rfl, hw.ds [0, 0]⟩
end Go.Proofs.YtfbggkmlkkffbaaDoor
end
