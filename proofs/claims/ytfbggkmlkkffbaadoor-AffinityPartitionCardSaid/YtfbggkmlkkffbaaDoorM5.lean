/- Texts of this proof, one behind another. -/
import Derived.Test.YtfbggkmlkkffbaaDoorM4
import Derived.Test.YtfbggkmlkkffbaaDoorM3
set_option linter.unusedVariables false
set_option linter.unusedSimpArgs false
/- Chapter 07: the live cores that a law picks; AffinityPartition, walked (printed by gen_a14.py). -/
section
open Go Mk
namespace Go.Proofs.YtfbggkmlkkffbaaDoor
set_option maxHeartbeats 64000000
attribute [local irreducible] Calls
attribute [local irreducible] matL
theorem live_ok {H : HwT} (hv : validS H = 0) {LV rest : List Int} (hs : (LV ++ rest).Perm (H.Cores.map (·.ID))) :
    liveS H LV = if LV = [] then ([], 64) else ((sortZ LV).map fun id => (findC H.Cores id).1, 0) := by
  have hnd := (hs.nodup_iff).2 (valid_ids hv)
  have hnl : LV.Nodup := (List.nodup_append.1 hnd).1
  have hfind : ∀ id ∈ sortZ LV, (findC H.Cores id).2 = true := fun id hid => find_of_id (hs.mem_iff.1 (List.mem_append_left _ ((sortZ_perm LV).mem_iff.1 hid)))
  unfold liveS
  rw [if_neg (by simp [hv]), if_neg (fun ⟨id, h1, h2⟩ => by rw [hfind id h1] at h2; cases h2), if_neg (by rw [compact_len (sortZ_sorted LV)]; exact fun hh => hh (((sortZ_perm LV).nodup_iff).2 hnl))]
  have hnil : sortZ LV = [] ↔ LV = [] := by
    have hlen := (sortZ_perm LV).length_eq
    constructor
    · intro e; rw [e] at hlen; exact List.eq_nil_of_length_eq_zero hlen.symm
    · intro e; rw [e] at hlen ⊢; exact List.eq_nil_of_length_eq_zero hlen
  by_cases e : LV = []
  · rw [if_pos e, if_pos (hnil.2 e)]
  · rw [if_neg e, if_neg (fun h => e (hnil.1 h))]
/-- The live cores, in ascending order. -/
theorem live_cores {H : HwT} (hv : validS H = 0) {LV rest : List Int} (hs : (LV ++ rest).Perm (H.Cores.map (·.ID))) {cs : List CoreT} (hcs : cs = (sortZ LV).map fun id => (findC H.Cores id).1) :
    cs.length = LV.length ∧ (∀ c ∈ cs, c ∈ H.Cores) ∧ cs.map (·.ID) = sortZ LV ∧ cs.Pairwise fun a b => a.ID < b.ID := by
  have hnd := (hs.nodup_iff).2 (valid_ids hv)
  have hnl : LV.Nodup := (List.nodup_append.1 hnd).1
  have hfind : ∀ id ∈ sortZ LV, (findC H.Cores id).2 = true := fun id hid => find_of_id (hs.mem_iff.1 (List.mem_append_left _ ((sortZ_perm LV).mem_iff.1 hid)))
  have hids : cs.map (·.ID) = sortZ LV := by
    rw [hcs, List.map_map]
    refine (List.map_congr_left fun id hid => ?_).trans (List.map_id _)
    exact (findC_in (hfind id hid)).2
  refine ⟨by rw [hcs, List.length_map]; exact (sortZ_perm LV).length_eq, fun c hc => ?_, hids, ?_⟩
  · rw [hcs] at hc
    obtain ⟨id, hid, rfl⟩ := List.mem_map.1 hc
    exact (findC_in (hfind id hid)).1
  · have h1 := sortZ_sorted LV
    have h2 := ((sortZ_perm LV).nodup_iff).2 hnl
    have h3 : (sortZ LV).Pairwise (· < ·) := (h1.and h2).imp fun {a b} h => by have := h.1; have := h.2; omega
    rw [← hids, List.pairwise_map] at h3
    exact h3
/-- Pools in memory, for ever. -/
structure PoolsF (Γ : Gho) (v : Value) (cs : List CoreT) (vs : List Value) (B : List (List RangeT)) : Prop where
  out : RepS Γ v 2 (poolsR cs vs)
  inn : ∀ (k : Nat) (v : Value) (b : List RangeT), vs[k]? = some v → B[k]? = some b → RepS Γ v 2 (b.map enc)
theorem pools_freeze {Γ : Gho} {S : List Res} {w : World} {v : Value} {cs : List CoreT} {vs : List Value} {B : List (List RangeT)} (hw : Wd Γ (.own v 40 2 (poolsR cs vs) :: (inn 43 2 (poolsI vs B) ++ S)) w) :
    ∃ Γ', Γ.le Γ' ∧ PoolsF Γ' v cs vs B ∧ Wd Γ' S w := by
  obtain ⟨Γ1, e1, rp, hw⟩ := hw.freeze
  unfold inn at hw
  obtain ⟨Γ2, e2, hb, hw⟩ := freeze_list (f := fun p : Value × List (List Value) => p.1) (g := fun p => p.2) (poolsI vs B) hw
  refine ⟨Γ2, e1.trans e2, ⟨rp.mono e2, fun k v b h1 h2 => ?_⟩, hw⟩
  exact hb _ (List.mem_of_getElem? (poolsI_get h1 h2))
theorem near_pos {D : Mx} {cs : List CoreT} {m : MemT} (h0 : 0 < cs.length) (hc : ∀ c ∈ cs, Can D c m) : 0 < (nearL D cs m).length := by
  rcases candR_ok (f := costI D cs m) cs.length (fun i hi => by
    unfold costI costM
    obtain ⟨c, hcc⟩ := get_lt (l := cs) (k := i) hi
    have := hc c (List.mem_of_getElem? hcc)
    simp only [List.getD_eq_getElem?_getD, hcc, Option.getD_some]
    have h1 := this.d; have h2 := this.l
    omega) with ⟨h1, -⟩ | ⟨-, -, -, h1, -⟩
  · omega
  · exact h1
theorem wrapU {z : Int} (h1 : 0 ≤ z) (h2 : z < 18446744073709551616) : IntKind.u64.wrap z = z := by simp [IntKind.wrap, IntKind.bits, IntKind.signed]; omega
theorem sum_pos {l : List RangeT} : 0 ≤ (l.map szR).sum := by
  induction l with
  | nil => simp
  | cons x l ih => have := szR_pos x; simp only [List.map_cons, List.sum_cons]; omega
theorem sum_take {l : List RangeT} (i : Nat) : ((l.take i).map szR).sum ≤ (l.map szR).sum := by
  have h : l = l.take i ++ l.drop i := (List.take_append_drop i l).symm
  have h2 : (l.map szR).sum = ((l.take i).map szR).sum + ((l.drop i).map szR).sum := by
    rw [← List.sum_append, ← List.map_append, List.take_append_drop]
  have := sum_pos (l := l.drop i)
  omega
theorem mems_sum : ∀ l : List MemT, (∀ m ∈ l, ∃ e, MemP m e) → 0 ≤ (l.map fun m => m.Size).sum ∧ (l.map fun m => m.Size).sum ≤ (l.length : Int) * 1099511627776
  | [], _ => by simp
  | x :: l, hl => by
    obtain ⟨e, he⟩ := hl x (by simp)
    have := mems_sum l fun m hm => hl m (by simp [hm])
    have h2 := he.base; have h3 := he.fin
    have h4 : 0 ≤ x.Size := by rw [he.size]; exact Int.natCast_nonneg _
    simp only [List.map_cons, List.sum_cons, List.length_cons]
    push_cast
    omega
theorem part_len {H : HwT} {R : List RangeT} (h : PartP H R) (hm : H.Mems.length ≤ 4) (hp : ∀ m ∈ H.Mems, ∃ e, MemP m e) : R.length ≤ 1073741824 ∧ (R.map szR).sum ≤ 4398046511104 := by
  have h1 : ∀ l : List MemT, (∀ m ∈ l, ∃ e, MemP m e) → (l.map fun m => m.Size).sum ≤ (l.length : Int) * 1099511627776 := fun l => by
    induction l with
    | nil => intro _; simp
    | cons x l ih =>
      intro hl
      obtain ⟨e, he⟩ := hl x (by simp)
      have := ih fun m hm => hl m (by simp [hm])
      have h2 := he.base; have h3 := he.fin
      simp only [List.map_cons, List.sum_cons, List.length_cons]
      push_cast
      omega
  have h2 : ∀ l : List RangeT, (∀ b ∈ l, BlkP b) → (l.length : Int) * 4096 ≤ (l.map szR).sum := fun l => by
    induction l with
    | nil => intro _; simp
    | cons x l ih =>
      intro hl
      have := ih fun m hm => hl m (by simp [hm])
      have h3 := szR_le (hl x (by simp))
      simp only [List.map_cons, List.sum_cons, List.length_cons]
      push_cast
      omega
  have h3 := h2 R fun b hb => (h.ok b hb).1
  have h4 := h1 H.Mems hp
  rw [← h.sum] at h4
  omega
theorem flat_len {α : Type} {B : List (List α)} (i : Nat) : ((B.take i).flatten).length ≤ B.flatten.length := by
  have h : B = B.take i ++ B.drop i := (List.take_append_drop i B).symm
  have h2 : B.flatten.length = ((B.take i).flatten).length + ((B.drop i).flatten).length := by
    rw [← List.length_append, ← List.flatten_append, List.take_append_drop]
  omega
theorem shl_i {b : RangeT} (h : BlkP b) : IntKind.i64.wrap (1 * 2 ^ (min (IntKind.u64.wrap b.Bits).toNat IntKind.i64.bits)) = szR b ∧ IntKind.u64.wrap (1 * 2 ^ (min (IntKind.u64.wrap b.Bits).toNat IntKind.u64.bits)) = szR b := by
  have h1 := h.lo; have h2 := h.hi
  have h3 := szR_le h
  have h4 : IntKind.u64.wrap b.Bits = b.Bits := wrapU (by omega) (by omega)
  rw [h4]
  simp only [Int.one_mul]
  have h5 : min b.Bits.toNat IntKind.i64.bits = b.Bits.toNat := Nat.min_eq_left (by show b.Bits.toNat ≤ 64; omega)
  have h6 : min b.Bits.toNat IntKind.u64.bits = b.Bits.toNat := Nat.min_eq_left (by show b.Bits.toNat ≤ 64; omega)
  rw [h5, h6]
  unfold szR at h3 ⊢
  exact ⟨wrap_i64 (by omega) (by omega), wrapU (z := 2 ^ b.Bits.toNat) (by omega) (by omega)⟩

set_option maxRecDepth 8000 in
theorem AffinityPartition_any {Γ : Gho} [hBr : BrG Γ] {S : List Res} {w : World} {a ap : Option Addr} {m c np cp : Nat} {L PK : List Int} (hr : RepS Γ (.slice a m c) 1 (intRows L)) (hp : RepS Γ (.slice ap np cp) 1 (intRows PK)) (hw : Wd Γ S w) :
    Calls Tryd.prog 3 #[.slice a m c, .slice ap np cp] w fun e w' => ∃ Γ', Γ.le Γ' ∧ e = .returned (.bool true) ∧ Wd Γ' S w' := by
  obtain ⟨hnp, hncp, hccp⟩ := rep_facts hp
  obtain ⟨hnr, hncr, hccr⟩ := rep_facts hr
  have hnp : np = PK.length := by simpa [intRows] using hnp
  have hnr : m = L.length := by simpa [intRows] using hnr
  refine calls_of_W Tryd.func3 rfl rfl ?_
  repeat (first | refine byW ?_ | (refine byV ?_; intro w hw))
  refine W_cond rfl (fun h => ?_) (fun h => ?_)
  · repeat (first | refine byW ?_ | (refine byV ?_; intro w hw))
    exact ⟨_, rfl, Γ, .refl _, rfl, hw⟩
  have hLs : ¬ (200 < (m : Int) ∨ 40 < (np : Int)) := by simpa using h
  clear h
  repeat (first | refine byW ?_ | (refine byV ?_; intro w hw))
  refine lCall ((Hardware_any hr hw).mono fun r w hq => ?_)
  clear hw
  obtain ⟨Γ1, H, u, nodes, sh, first, irq, hle1, rfl, hG, ho⟩ := hq
  refine ⟨_, rfl, ?_⟩
  have hv := gen_valid hG
  have hSz := gen_sz hG
  have hWd := gen_wide hG
  have hnc := hG.nc
  have hnm := hG.nm'
  have hp1 := hp.mono hle1
  have hBr1 : BrG Γ1 := hBr.mono hle1
  obtain ⟨Γ2, hle2, hR, hw⟩ := ho.freeze (gen_sz hG)
  clear ho hr
  obtain ⟨a1, n1, c1, a2, n2, c2, a3, n3, c3, a4, n4, c4, a5, n5, c5, cs', rfl, hcs, hok, hsz, r1, r2, r3, r4, r5⟩ := hR.h
  obtain ⟨hn1, hnc1, hcc1⟩ := rep_facts r1
  obtain ⟨hn4, hnc4, hcc4⟩ := rep_facts r4
  simp only [List.length_map] at hn1 hn4
  repeat (first | refine byW ?_ | (refine byV ?_; intro w hw))
  refine lAlloc ?_
  intro b5 w hw
  refine lStore ?_
  intro w hw
  have hw : Wd Γ2 (.blk b5 (hwC H a1 n1 c1 a2 n2 c2 a3 n3 c3 a4 n4 c4 a5 n5 c5) :: S) w := hw
  repeat (first | refine byW ?_ | (refine byV ?_; intro w hw))
  refine lCall ((IDs_any (xs := H.Cores) (nm := H.Name) (RepS.rdS r1) (by omega) hw).mono fun e w hq => ?_)
  clear hw
  obtain ⟨vi, rfl, hw⟩ := hq
  refine ⟨_, rfl, ?_⟩
  obtain ⟨ai, ni, ci, rfl, hni, hnci, hcci⟩ := hw.own_shape (i := 0) rfl
  have hni : ni = H.Cores.length := by simpa [intRows] using hni
  obtain ⟨Γ3, hle3, q1, hw1⟩ := hw.freeze
  clear hw
  have hw := hw1
  clear hw1
  repeat (first | refine byW ?_ | (refine byV ?_; intro w hw))
  refine lCall ((Subset_any q1 ((hp1.mono hle2).mono hle3) (by simp; omega) (by omega) hw).mono fun e w hq => ?_)
  clear hw
  obtain ⟨vl, rfl, hw⟩ := hq
  refine ⟨_, rfl, ?_⟩
  obtain ⟨rest, hrest⟩ := subF_perm PK PK.length 0 (H.Cores.map (·.ID))
  have hlvl : (subF PK PK.length 0 (H.Cores.map (·.ID))).length ≤ 40 := Nat.le_trans (subF_len _ _ _ _) (by omega)
  generalize subF PK PK.length 0 (H.Cores.map (·.ID)) = LV at *
  obtain ⟨al, nl, cl, rfl, hnl, hncl, hccl⟩ := hw.own_shape (i := 0) rfl
  have hnl : nl = LV.length := by simpa [intRows] using hnl
  obtain ⟨Γ4, hle4, rl, hw1⟩ := hw.freeze
  clear hw
  have hw : Wd Γ4 (.blk b5 (hwC H a1 n1 c1 a2 n2 c2 a3 n3 c3 a4 n4 c4 a5 n5 c5) :: S) w := hw1
  clear hw1
  have hR4 := hR.mono (hle3.trans hle4)
  haveI hBr4 : BrG Γ4 := hBr1.mono (hle2.trans (hle3.trans hle4))
  have r4 := r4.mono (hle3.trans hle4)
  have hle : Γ.le Γ4 := hle1.trans (hle2.trans (hle3.trans hle4))
  have hlive := live_ok hv hrest
  clear hle1 hle2 hle3 hle4 hBr1 hp1 q1 hBr
  repeat (first | refine byW ?_ | (refine byV ?_; intro w hw))
  refine lCall ((pools_core (hh := hR4) hWd rl (by omega) hw).mono fun e w hq => ?_)
  clear hw
  obtain ⟨Γ5, v7, hle5, rfl, hq⟩ := hq
  refine ⟨_, rfl, ?_⟩
  rw [hlive] at hq ⊢
  clear hlive
  by_cases hLV : LV = []
  · rw [if_pos hLV] at hq ⊢
    rcases hq with ⟨-, rfl, hw⟩ | ⟨h, -⟩
    · have hnl0 : nl = 0 := by rw [hnl, hLV]; rfl
      subst hnl0
      haveI : BrG Γ5 := hBr4.mono hle5
      repeat (first | refine byW ?_ | (refine byV ?_; intro w hw))
      refine W_cond_true rfl ?_
      repeat (first | (first | refine W_seq ?_ | refine W_block ?_ | refine W_region ?_ | refine W_skip ?_ | refine W_ret ?_ | refine W_exit ?_) | ((first | apply L_bin | apply L_notop); first | (refine lT ?_ ?_; (first | exact rfl | exact decide_eq_true rfl | (simp; done))) | (refine lF ?_ ?_; (first | exact rfl | exact decide_eq_true rfl | (simp; done)))) | (first | refine L_nil ?_ | (apply L_plain; first | (apply L_go; first | refine lP ?_ | (refine lPg ?_; intro w hw)) | (apply L_mf; refine lMakeFunc ?_) | refine lY ?_) | (apply L_guarded; first | refine lGT ?_ | refine lGF ?_ | (apply L_go; first | refine lPG ?_ | (refine lPgG ?_; intro w hw)) | refine lG ?_)) | (refine lAlloc ?_; intro _ w hw) | (refine lBox ?_; intro _ w hw) | (refine lStore ?_; intro w hw))
      exact ⟨_, rfl, Γ5, hle.trans hle5, rfl, hw.drop⟩
    · exact absurd h (by decide)
  rw [if_neg hLV] at hq ⊢
  simp only at hq ⊢
  rcases hq with ⟨h, -⟩ | ⟨-, n, a9, vs, B, rfl, hn, hvs, hB, hw⟩
  · exact absurd rfl h
  obtain ⟨hcl, hcm, hci, hca⟩ := live_cores hv hrest rfl
  generalize (sortZ LV).map (fun id => (findC H.Cores id).1) = cs at *
  obtain ⟨Γ6, hle6, hF, hw1⟩ := pools_freeze hw
  clear hw
  have hw := hw1
  clear hw1
  haveI hBr6 : BrG Γ6 := hBr4.mono (hle5.trans hle6)
  have r4 := r4.mono (hle5.trans hle6)
  have hle : Γ.le Γ6 := hle.trans (hle5.trans hle6)
  have hpos : 0 < LV.length := Nat.pos_of_ne_zero fun e => hLV (List.eq_nil_of_length_eq_zero e)
  have hPart : PartP H B.flatten := part_all (D := dstF H) hv (fun m hm => mem_pow hv hWd hm) (by rw [← hn]; exact hB) (fun m hm => near_pos (by omega) fun c hc => can_of hv (hcm c hc) hm)
  have hBlen := hB.len
  have hpw : ∀ m ∈ H.Mems, ∃ e, MemP m e := fun m hm => mem_pow hv hWd hm
  have hRl := part_len hPart hnm hpw
  clear hle5 hle6 hBr4 hB
  have rp := hF.out
  repeat (first | refine byW ?_ | (refine byV ?_; intro w hw))
  refine W_cond_false (by show Value.bool (decide ((nl : Int) = 0)) = _; rw [decide_eq_false (by omega)]) ?_
  repeat (first | (first | refine W_seq ?_ | refine W_block ?_ | refine W_region ?_ | refine W_skip ?_ | refine W_ret ?_ | refine W_exit ?_) | ((first | apply L_bin | apply L_notop); first | (refine lT ?_ ?_; (first | exact rfl | exact decide_eq_true rfl | exact hb1 | exact hb2 | exact hb3 | exact hb4 | (focus (simp; done)))) | (refine lF ?_ ?_; (first | exact rfl | exact decide_eq_true rfl | exact hb1 | exact hb2 | exact hb3 | exact hb4 | (focus (simp; done))))) | (first | refine L_nil ?_ | (apply L_plain; first | (apply L_go; first | refine lP ?_ | (refine lPg ?_; intro w hw)) | (apply L_mf; refine lMakeFunc ?_) | refine lY ?_) | (apply L_guarded; first | refine lGT ?_ (hct := rfl) | refine lGF ?_ (hct := rfl) | (apply L_go; first | refine lPG ?_ | (refine lPgG ?_; intro w hw)) | refine lG ?_)) | (refine lAlloc ?_; intro _ w hw) | (refine lBox ?_; intro _ w hw) | (refine lStore ?_; intro w hw) | (apply L_guarded; refine lGF ?_ (hc := by exact GuardIs.u) (hct := rfl)))
  refine W_cond_false (by show Value.bool (false || decide ((n : Int) ≠ (nl : Int))) = _; rw [decide_eq_false (by omega)]; rfl) ?_
  repeat (first | refine byW ?_ | (refine byV ?_; intro w hw))
  have hw := Wd.addNil (a := none) (E := 43) (sz := 2) hw
  refine W_loop (fun μ ρ w => ∃ (i : Nat) (v9 : Value), μ + i = n ∧ Has ρ [(5, .pointer (some ⟨b5, 0, none⟩)), (7, .slice (some a9) n n), (9, v9), (10, .int .i64 i)] ∧ Wd Γ6 (.own v9 43 2 ((B.take i).flatten.map enc) :: .blk b5 (hwC H a1 n1 c1 a2 n2 c2 a3 n3 c3 a4 n4 c4 a5 n5 c5) :: S) w) n ⟨0, .slice none 0 0, by omega, ⟨rfl, rfl, rfl, rfl, trivial⟩, hw⟩ ?_
  clear hw
  rintro μ ρ w ⟨i, v9, hi, hρ, hw⟩
  rw [hρ.eq]
  clear hρ
  obtain ⟨a10, n9, c9, rfl, hn9, hnc9, -⟩ := hw.own_shape (i := 0) rfl
  simp only [List.length_map] at hn9
  repeat (first | refine byW ?_ | (refine byV ?_; intro w hw))
  refine W_cond rfl (fun h => ?_) (fun h => ?_)
  · have hin : i < n := by have := of_decide_eq_true h; omega
    clear h
    obtain ⟨ci, hci1⟩ := get_lt (l := cs) (k := i) (by omega)
    obtain ⟨vi, hvi⟩ := get_lt (l := vs) (k := i) (by omega)
    obtain ⟨bi, hbi⟩ := get_lt (l := B) (k := i) (by omega)
    obtain ⟨cj, hcj⟩ := get_lt (l := cs) (k := ((i : Int) - 1).toNat) (by omega)
    obtain ⟨vj, hvj⟩ := get_lt (l := vs) (k := ((i : Int) - 1).toNat) (by omega)
    have hlt : 0 < i → cj.ID < ci.ID := fun h0 => by
      obtain ⟨h1, h2⟩ := List.getElem?_eq_some_iff.1 hcj
      obtain ⟨h3, h4⟩ := List.getElem?_eq_some_iff.1 hci1
      have := (List.pairwise_iff_getElem.1 hca) _ _ h1 h3 (by omega)
      rw [h2, h4] at this; exact this
    repeat (first | refine byW ?_ | (refine byV ?_; intro w hw))
    refine W_quiet (by kernel_rfl) (by kernel_rfl) hw ?_
    repeat (first | refine Q_nil ?_ | (apply Q_plain; first | (apply Q_go; first | refine qP ?_ | refine qPg ?_) | refine qY ?_) | (apply Q_guarded; first | (apply Q_go; first | refine qPG ?_ | refine qPgG ?_) | refine qG ?_))
    refine qG (v := .int .i64 ci.ID) ?_ (hy := fun hc w hw => y_loadEf (gvT hc rfl) (rp.rd hw) (poolsR_get hci1 hvi) rfl)
    repeat (first | refine Q_nil ?_ | (apply Q_plain; first | (apply Q_go; first | refine qP ?_ | refine qPg ?_) | refine qY ?_) | (apply Q_guarded; first | (apply Q_go; first | refine qPG ?_ | refine qPgG ?_) | refine qG ?_))
    refine qG (v := .int .i64 cj.ID) ?_ (hy := fun hc w hw => y_loadEf (gvT hc rfl) (rp.rd hw) (poolsR_get hcj hvj) rfl)
    repeat (first | refine Q_nil ?_ | (apply Q_plain; first | (apply Q_go; first | refine qP ?_ | refine qPg ?_) | refine qY ?_) | (apply Q_guarded; first | (apply Q_go; first | refine qPG ?_ | refine qPgG ?_) | refine qG ?_))
    intro w hw
    refine W_cond rfl (fun h => ?_) (fun h => ?_)
    · have h : (0 : Int) < i ∧ ci.ID ≤ cj.ID := by simpa using h
      have := hlt (by omega)
      omega
    clear h hlt
    repeat (first | refine byW ?_ | (refine byV ?_; intro w hw))
    refine lY (v := vi) ?_ (hy := y_loadEf rfl (rp.rd hw) (poolsR_get hci1 hvi) rfl)
    obtain ⟨ab, nb, cb, rfl, hnb, -, -⟩ := (hF.inn i vi bi hvi hbi).shape
    have hrb := hF.inn i _ bi hvi hbi
    simp only [List.length_map] at hnb
    have hfl : (B.take (i + 1)).flatten = (B.take i).flatten ++ bi := by rw [take_succ_of hbi, List.flatten_append]; simp
    have hfb : ((B.take (i + 1)).flatten).length ≤ 1073741824 := Nat.le_trans (flat_len _) hRl.1
    rw [hfl, List.length_append] at hfb
    refine lApp (i := 0) (rows2 := bi.map enc) ?_ (hrb.rd hw) rfl rfl hw rfl (encs_one bi) (by simpa using hnb)
    intro v9 w hw
    have hw : Wd Γ6 (.own v9 43 2 ((B.take i).flatten.map enc ++ bi.map enc) :: .blk b5 (hwC H a1 n1 c1 a2 n2 c2 a3 n3 c3 a4 n4 c4 a5 n5 c5) :: S) w := hw
    rw [← List.map_append, ← hfl] at hw
    repeat (first | refine byW ?_ | (refine byV ?_; intro w hw))
    exact ⟨μ - 1, by omega, i + 1, v9, by omega, ⟨rfl, rfl, rfl, rfl, trivial⟩, hw⟩
  have hin : n = i := by have := of_decide_eq_false h; omega
  subst hin
  clear h hi
  rw [List.take_of_length_le (by omega)] at hw hn9
  generalize B.flatten = R at *
  have htb : ∀ k, 0 ≤ ((R.take k).map szR).sum ∧ ((R.take k).map szR).sum ≤ 4398046511104 := fun k => ⟨sum_pos, Int.le_trans (sum_take k) hRl.2⟩
  repeat (first | refine byW ?_ | (refine byV ?_; intro w hw))
  refine W_loop (fun μ ρ w => ∃ (i : Nat), μ + i = n9 ∧ Has ρ [(5, .pointer (some ⟨b5, 0, none⟩)), (9, .slice a10 n9 c9), (11, .int .u64 ((R.take i).map szR).sum), (12, .int .i64 i)] ∧ Wd Γ6 (.own (.slice a10 n9 c9) 43 2 (R.map enc) :: .blk b5 (hwC H a1 n1 c1 a2 n2 c2 a3 n3 c3 a4 n4 c4 a5 n5 c5) :: S) w) n9 ⟨0, by omega, ⟨rfl, rfl, rfl, rfl, trivial⟩, hw⟩ ?_
  clear hw
  rintro μ ρ w ⟨i, hi, hρ, hw⟩
  rw [hρ.eq]
  clear hρ
  repeat (first | refine byW ?_ | (refine byV ?_; intro w hw))
  refine W_cond rfl (fun h => ?_) (fun h => ?_)
  · have hin : i < n9 := by have := of_decide_eq_true h; omega
    clear h
    obtain ⟨b, hb⟩ := get_lt (l := R) (k := i) (by omega)
    obtain ⟨hbP, mm, hmm, hbm⟩ := hPart.ok b (List.mem_of_getElem? hb)
    have hsh := shl_i hbP
    have hlo := hbP.lo
    have hhi := hbP.hi
    have hbs := hbP.base
    have hal := hbP.al
    have htop := hbP.top
    have hszr := szR_le hbP
    have hwb : 0 ≤ IntKind.u64.wrap b.Bits := by rw [wrapU (by omega) (by omega)]; omega
    have hshne : IntKind.i64.wrap (1 * 2 ^ (min (IntKind.u64.wrap b.Bits).toNat IntKind.i64.bits)) ≠ 0 := by rw [hsh.1]; omega
    repeat (first | refine byW ?_ | (refine byV ?_; intro w hw))
    refine lAlloc ?_
    intro b13 w hw
    repeat (first | refine byW ?_ | (refine byV ?_; intro w hw))
    refine lStore ?_
    intro w hw
    have hw : Wd Γ6 (.blk b13 (.cells (enc b).toArray 43) :: .own (.slice a10 n9 c9) 43 2 (R.map enc) :: .blk b5 (hwC H a1 n1 c1 a2 n2 c2 a3 n3 c3 a4 n4 c4 a5 n5 c5) :: S) w := hw
    repeat (first | refine byW ?_ | (refine byV ?_; intro w hw))
    refine W_cond rfl (fun h => ?_) (fun h => ?_)
    · exfalso
      have h : b.Bits < 12 ∨ 40 < b.Bits ∨ b.Base < 0 ∨ b.Base.tmod (IntKind.i64.wrap (1 * 2 ^ (min (IntKind.u64.wrap b.Bits).toNat IntKind.i64.bits))) ≠ 0 := by simpa [or_assoc] using h
      rw [hsh.1, Int.tmod_eq_emod_of_nonneg hbs, hal] at h
      omega
    clear h
    have hb64 : IntKind.u64.wrap b.Base = b.Base := by unfold endR at htop; exact wrapU hbs (by omega)
    have hend : IntKind.u64.wrap (IntKind.u64.wrap b.Base + IntKind.u64.wrap (1 * 2 ^ (min (IntKind.u64.wrap b.Bits).toNat IntKind.u64.bits))) = endR b := by
      rw [hb64, hsh.2]; unfold endR at htop ⊢; exact wrapU (by omega) (by omega)
    repeat (first | refine byW ?_ | (refine byV ?_; intro w hw))
    refine W_loop (fun μ2 ρ w => ∃ (k : Nat) (q : Bool), μ2 + k = n4 ∧ (q = true ↔ ∃ x ∈ H.Mems.take k, inM b x) ∧ Has ρ [(5, .pointer (some ⟨b5, 0, none⟩)), (9, .slice a10 n9 c9), (11, .int .u64 ((R.take i).map szR).sum), (12, .int .i64 i), (13, .pointer (some ⟨b13, 0, none⟩)), (14, .bool q), (15, .int .i64 k)] ∧ Wd Γ6 (.blk b13 (.cells (enc b).toArray 43) :: .own (.slice a10 n9 c9) 43 2 (R.map enc) :: .blk b5 (hwC H a1 n1 c1 a2 n2 c2 a3 n3 c3 a4 n4 c4 a5 n5 c5) :: S) w) n4 ⟨0, false, by omega, by simp, ⟨rfl, rfl, rfl, rfl, rfl, rfl, rfl, trivial⟩, hw⟩ ?_
    clear hw
    rintro μ2 ρ w ⟨k, q, hk, hq, hρ, hw⟩
    rw [hρ.eq]
    clear hρ
    repeat (first | refine byW ?_ | (refine byV ?_; intro w hw))
    refine W_cond rfl (fun h => ?_) (fun h => ?_)
    · have hkn : k < n4 := by have := of_decide_eq_true h; omega
      clear h
      obtain ⟨x, hx⟩ := get_lt (l := H.Mems) (k := k) (by omega)
      obtain ⟨ex, hex⟩ := hpw x (List.mem_of_getElem? hx)
      have hxe : IntKind.u64.wrap (x.Base + x.Size) = x.Base + x.Size := by
        have := hex.base; have := hex.fin; have := hex.size
        have : 0 ≤ x.Size := by rw [this]; exact Int.natCast_nonneg _
        exact wrapU (by omega) (by omega)
      repeat (first | refine byW ?_ | (refine byV ?_; intro w hw))
      refine lAlloc ?_
      intro b16 w hw
      repeat (first | refine byW ?_ | (refine byV ?_; intro w hw))
      refine lStore ?_
      intro w hw
      have hw : Wd Γ6 (.blk b16 (.cells (enc x).toArray 46) :: .blk b13 (.cells (enc b).toArray 43) :: .own (.slice a10 n9 c9) 43 2 (R.map enc) :: .blk b5 (hwC H a1 n1 c1 a2 n2 c2 a3 n3 c3 a4 n4 c4 a5 n5 c5) :: S) w := hw
      repeat (first | refine byW ?_ | (refine byV ?_; intro w hw))
      refine ⟨μ2 - 1, by omega, k + 1, q || (decide (x.Base ≤ IntKind.u64.wrap b.Base) && decide (IntKind.u64.wrap (IntKind.u64.wrap b.Base + IntKind.u64.wrap (1 * 2 ^ (min (IntKind.u64.wrap b.Bits).toNat IntKind.u64.bits))) ≤ IntKind.u64.wrap (x.Base + x.Size))), by omega, ?_, ⟨rfl, rfl, rfl, rfl, rfl, rfl, rfl, trivial⟩, hw.drop⟩
      rw [hend, hxe, hb64, take_succ_of hx]
      simp only [Bool.or_eq_true, Bool.and_eq_true, decide_eq_true_eq, hq, List.mem_append, List.mem_singleton]
      constructor
      · rintro (⟨y, h1, h2⟩ | h1)
        · exact ⟨y, .inl h1, h2⟩
        · exact ⟨x, .inr rfl, h1⟩
      · rintro ⟨y, h1 | rfl, h2⟩
        · exact .inl ⟨y, h1, h2⟩
        · exact .inr h2
    have hkn : n4 = k := by have := of_decide_eq_false h; omega
    subst hkn
    clear h hk
    rw [List.take_of_length_le (by omega)] at hq
    have hqt : q = true := hq.2 ⟨mm, hmm, hbm⟩
    subst hqt
    clear hq
    repeat (first | refine byW ?_ | (refine byV ?_; intro w hw))
    refine W_loop (fun μ2 ρ w => ∃ (k : Nat), μ2 + k = i ∧ Has ρ [(5, .pointer (some ⟨b5, 0, none⟩)), (9, .slice a10 n9 c9), (11, .int .u64 ((R.take i).map szR).sum), (12, .int .i64 i), (13, .pointer (some ⟨b13, 0, none⟩)), (14, .bool true), (17, .int .i64 k)] ∧ Wd Γ6 (.blk b13 (.cells (enc b).toArray 43) :: .own (.slice a10 n9 c9) 43 2 (R.map enc) :: .blk b5 (hwC H a1 n1 c1 a2 n2 c2 a3 n3 c3 a4 n4 c4 a5 n5 c5) :: S) w) i ⟨0, by omega, ⟨rfl, rfl, rfl, rfl, rfl, rfl, rfl, trivial⟩, hw⟩ ?_
    clear hw
    rintro μ2 ρ w ⟨k, hk, hρ, hw⟩
    rw [hρ.eq]
    clear hρ
    repeat (first | refine byW ?_ | (refine byV ?_; intro w hw))
    refine W_cond rfl (fun h => ?_) (fun h => ?_)
    · have hkn : k < i := by have := of_decide_eq_true h; omega
      clear h
      obtain ⟨y, hy⟩ := get_lt (l := R) (k := k) (by omega)
      obtain ⟨hyP, -⟩ := hPart.ok y (List.mem_of_getElem? hy)
      have hap : apR y b := by
        obtain ⟨h1, h2⟩ := List.getElem?_eq_some_iff.1 hy
        obtain ⟨h3, h4⟩ := List.getElem?_eq_some_iff.1 hb
        have := (List.pairwise_iff_getElem.1 hPart.ap) k i h1 h3 hkn
        rw [h2, h4] at this; exact this
      have hys := shl_i hyP
      have hyl := hyP.lo
      have hyh := hyP.hi
      have hyb := hyP.base
      have hyt := hyP.top
      have hyz := szR_le hyP
      have hyw : 0 ≤ IntKind.u64.wrap y.Bits := by rw [wrapU (by omega) (by omega)]; omega
      have hs1 := hsh.1
      have hs2 := hys.1
      unfold endR at hyt htop
      repeat (first | refine byW ?_ | (refine byV ?_; intro w hw))
      refine lAlloc ?_
      intro b18 w hw
      repeat (first | refine byW ?_ | (refine byV ?_; intro w hw))
      refine lStore ?_
      intro w hw
      have hw : Wd Γ6 (.blk b18 (.cells (enc y).toArray 43) :: .blk b13 (.cells (enc b).toArray 43) :: .own (.slice a10 n9 c9) 43 2 (R.map enc) :: .blk b5 (hwC H a1 n1 c1 a2 n2 c2 a3 n3 c3 a4 n4 c4 a5 n5 c5) :: S) w := hw
      repeat (first | refine byW ?_ | (refine byV ?_; intro w hw))
      refine W_cond rfl (fun h => ?_) (fun h => ?_)
      · exfalso
        have h : b.Base < y.Base + IntKind.i64.wrap (1 * 2 ^ (min (IntKind.u64.wrap y.Bits).toNat IntKind.i64.bits)) ∧ y.Base < b.Base + IntKind.i64.wrap (1 * 2 ^ (min (IntKind.u64.wrap b.Bits).toNat IntKind.i64.bits)) := by simpa using h
        rw [hs1, hs2] at h
        exact hap ⟨h.2, h.1⟩
      repeat (first | refine byW ?_ | (refine byV ?_; intro w hw))
      exact ⟨μ2 - 1, by omega, k + 1, by omega, ⟨rfl, rfl, rfl, rfl, rfl, rfl, rfl, trivial⟩, hw.drop⟩
    have hkn : i = k := by have := of_decide_eq_false h; omega
    clear h hk
    repeat (first | refine byW ?_ | (refine byV ?_; intro w hw))
    refine W_cond_false rfl ?_
    have hts : IntKind.u64.wrap (((R.take i).map szR).sum + IntKind.u64.wrap (1 * 2 ^ (min (IntKind.u64.wrap b.Bits).toNat IntKind.u64.bits))) = ((R.take (i + 1)).map szR).sum := by
      have := htb i
      rw [hsh.2, take_succ_of hb, List.map_append, List.sum_append]
      simp only [List.map_cons, List.map_nil, List.sum_cons, List.sum_nil, Int.add_zero]
      exact wrapU (by omega) (by omega)
    repeat (first | refine byW ?_ | (refine byV ?_; intro w hw))
    exact ⟨μ - 1, by omega, i + 1, by omega, ⟨rfl, rfl, by show Value.int .u64 (IntKind.u64.wrap (((R.take i).map szR).sum + IntKind.u64.wrap (1 * 2 ^ (min (IntKind.u64.wrap b.Bits).toNat IntKind.u64.bits)))) = _; rw [hts], rfl, trivial⟩, hw.drop⟩
  have hin : n9 = i := by have := of_decide_eq_false h; omega
  subst hin
  clear h hi
  rw [List.take_of_length_le (by omega), hPart.sum]
  have hrem : ∀ k, 0 ≤ ((H.Mems.drop k).map fun m => m.Size).sum ∧ ((H.Mems.drop k).map fun m => m.Size).sum ≤ 4398046511104 := fun k => by
    have := mems_sum (H.Mems.drop k) fun m hm => hpw m (List.mem_of_mem_drop hm)
    have h2 : (H.Mems.drop k).length ≤ 4 := by rw [List.length_drop]; omega
    omega
  repeat (first | refine byW ?_ | (refine byV ?_; intro w hw))
  refine W_loop (fun μ ρ w => ∃ (k : Nat), μ + k = n4 ∧ Has ρ [(5, .pointer (some ⟨b5, 0, none⟩)), (11, .int .u64 ((H.Mems.drop k).map fun m => m.Size).sum), (19, .int .i64 k)] ∧ Wd Γ6 (.own (.slice a10 n9 c9) 43 2 (R.map enc) :: .blk b5 (hwC H a1 n1 c1 a2 n2 c2 a3 n3 c3 a4 n4 c4 a5 n5 c5) :: S) w) n4 ⟨0, by omega, ⟨rfl, rfl, rfl, trivial⟩, hw⟩ ?_
  clear hw
  rintro μ ρ w ⟨k, hk, hρ, hw⟩
  rw [hρ.eq]
  clear hρ
  repeat (first | refine byW ?_ | (refine byV ?_; intro w hw))
  refine W_cond rfl (fun h => ?_) (fun h => ?_)
  · have hkn : k < n4 := by have := of_decide_eq_true h; omega
    clear h
    obtain ⟨x, hx⟩ := get_lt (l := H.Mems) (k := k) (by omega)
    have hdr : H.Mems.drop k = x :: H.Mems.drop (k + 1) := by
      obtain ⟨h1, h2⟩ := List.getElem?_eq_some_iff.1 hx
      rw [← h2]; exact List.drop_eq_getElem_cons h1
    have hst : IntKind.u64.wrap (((H.Mems.drop k).map fun m => m.Size).sum - x.Size) = ((H.Mems.drop (k + 1)).map fun m => m.Size).sum := by
      have h1 := hrem (k + 1)
      rw [hdr, List.map_cons, List.sum_cons]
      rw [show x.Size + ((H.Mems.drop (k + 1)).map fun m => m.Size).sum - x.Size = ((H.Mems.drop (k + 1)).map fun m => m.Size).sum by omega]
      exact wrapU (by omega) (by omega)
    repeat (first | refine byW ?_ | (refine byV ?_; intro w hw))
    exact ⟨μ - 1, by omega, k + 1, by omega, ⟨rfl, by show Value.int .u64 (IntKind.u64.wrap (((H.Mems.drop k).map fun m => m.Size).sum - x.Size)) = _; rw [hst], rfl, trivial⟩, hw⟩
  have hkn : n4 = k := by have := of_decide_eq_false h; omega
  subst hkn
  rw [List.drop_eq_nil_of_le (by omega)]
  clear h hk
  repeat (first | (first | refine W_seq ?_ | refine W_block ?_ | refine W_region ?_ | refine W_skip ?_ | refine W_ret ?_ | refine W_exit ?_) | ((first | apply L_bin | apply L_notop); first | (refine lT ?_ ?_; (first | exact rfl | exact decide_eq_true rfl | (simp; done))) | (refine lF ?_ ?_; (first | exact rfl | exact decide_eq_true rfl | (simp; done)))) | (first | refine L_nil ?_ | (apply L_plain; first | (apply L_go; first | refine lP ?_ | (refine lPg ?_; intro w hw)) | (apply L_mf; refine lMakeFunc ?_) | refine lY ?_) | (apply L_guarded; first | refine lGT ?_ | refine lGF ?_ | (apply L_go; first | refine lPG ?_ | (refine lPgG ?_; intro w hw)) | refine lG ?_)) | (refine lAlloc ?_; intro _ w hw) | (refine lBox ?_; intro _ w hw) | (refine lStore ?_; intro w hw))
  exact ⟨_, rfl, Γ6, hle, rfl, hw.ds [0, 0]⟩
end Go.Proofs.YtfbggkmlkkffbaaDoor
end
