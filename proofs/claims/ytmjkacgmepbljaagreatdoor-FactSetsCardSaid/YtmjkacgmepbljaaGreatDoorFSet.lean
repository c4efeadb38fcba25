/- FactSets: under every input the law answers true: Compare, Insert, Remove, Contains and Select equal the reference's, and leave their lists as they were. No condition. -/
import Derived.Test.YtmjkacgmepbljaaGreatDoorM4
import Derived.Test.YtmjkacgmepbljaaGreatDoorM6
set_option linter.unusedVariables false
set_option linter.unusedSimpArgs false
open Go Mk
namespace Go.Proofs.YtmjkacgmepbljaaGreatDoor
open Go.ChangeShapes Go.WideShapes Go.ChangeAt Go.RowKit
set_option maxRecDepth 100000 in
theorem factSets_lifted (os : Os) (started : os.Started) (H : Type) (enc : TypeId × Value → H) :
    ReturnsInHanded {} Tryz.checked os 7 .any (fun w args => (Rows.factSetsSpec.pre enc Tryz.prog Tryz.f7 [] false w args ∧ laidMetH Tryz.prog laidL w) ∧ sizedMet enc Tryz.prog Tryz.f7 (OpenSpec.ofChange Rows.factSetsSpec) false w args)
      (Rows.factSetsSpec.post enc Tryz.prog Tryz.f7 false true false false) := by
  refine returnsInHanded_of_change_and (C := Tryz.checked) (X := fun w _ => laidMetH Tryz.prog laidL w) (fun _ _ _ hh h => h.of_heap hh) own_knob started (by kernel_rfl) Tryz.func7
    (ChangeSpec.witness_shaped (enc := enc) (C := Tryz.checked) (os := os) (X := fun w _ => laidMetH Tryz.prog laidL w) false (World.doorLaid Tryz.prog 400 os) #[.slice none 0 0, .agg #[.string ⟨#[]⟩, .slice none 0 0], .agg #[.string ⟨#[]⟩, .slice none 0 0], .string ⟨#[]⟩, .int .i64 0] 8 rfl (World.shaped_of_RefB (by kernel_rfl) (by kernel_rfl)) (by kernel_rfl) (by kernel_rfl) (by kernel_rfl) (laidMetH_of_parts3 (fuel := 8) (laidMet_of_run' 8 (by kernel_rfl) (by kernel_rfl)) (by kernel_rfl) (by kernel_rfl))) ?_
  intro W base args ds gs before hval0 hW hcnd _ hL _
  have hval : ∀ (j : Nat) t v, Tryz.f7.params[j]? = some t → args[j]? = some v → Value.okWide Tryz.prog W .any base t v := hval0
  have hW' := hW
  obtain ⟨p, q, hA0, hV, rfl, hfz, hnd⟩ := hW
  have hA : DataW.TrodAll enc Tryz.prog W 0 (fun _ => true) true Tryz.f7.params.toList args.toList ds p := hA0
  have hB := hA
  rw [Tryz.params7] at hA hval
  obtain ⟨v0, vs0, d0, ds0, p0, q0, hargs, rfl, rfl, h0, r0⟩ := trodAll_cons hA
  obtain ⟨v1, vs1, d1, ds1, p1, q1, rfl, rfl, rfl, h1, r1⟩ := trodAll_cons r0
  obtain ⟨v2, vs2, d2, ds2, p2, q2, rfl, rfl, rfl, h2, r2⟩ := trodAll_cons r1
  obtain ⟨v3, vs3, d3, ds3, p3, q3, rfl, rfl, rfl, h3, r3⟩ := trodAll_cons r2
  obtain ⟨v4, vs4, d4, ds4, p4, q4, rfl, rfl, rfl, h4, r4⟩ := trodAll_cons r3
  obtain ⟨rfl, rfl, rfl⟩ := trodAll_nil r4
  obtain rfl : args = #[v0, v1, v2, v3, v4] := by cases args; simp_all
  obtain ⟨rfl, rfl⟩ := trodVars_none hV
  obtain ⟨a0, l0, c0, rfl⟩ := okWide_slice Tryz.underlying26 (hval 0 26 v0 rfl rfl)
  obtain ⟨n0, h0⟩ := h0
  obtain ⟨x0, r0', i0⟩ := read_facts h0
  obtain ⟨x1, rfl, i1⟩ := read_factV (hval 1 24 v1 rfl rfl) h1
  obtain ⟨x2, rfl, i2⟩ := read_factV (hval 2 24 v2 rfl rfl) h2
  obtain ⟨x3, rfl, rfl, rfl, w3⟩ := Go.ChangeMaps.open_string Tryz.underlying9 (hval 3 9 v3 rfl rfl) h3
  obtain ⟨x4, rfl, rfl, rfl, w4⟩ := open_int Tryz.underlying3 (hval 4 3 v4 rfl rfl) h4
  have hlt : ∀ pl ∈ (p0 ++ (p1 ++ (p2 ++ ([] ++ ([] ++ []))))) ++ [], pl.block < W.heap.size := fun pl hp => by simpa using hW'.lt pl hp
  have hTab := tabG_all (of_laid hL)
  clear hA0 hval0
  refine (FactSets_all hTab x0 x1 x2 ⟨r0', i0⟩ i1 i2).mono fun e W' ⟨Γ', hle, he, hg0⟩ => ?_
  have hg : Wd (allG0 W) [] W' := wd_less hle hg0
  subst he
  exact ⟨_, rfl, post_wd (pa := (p0 ++ (p1 ++ (p2 ++ ([] ++ ([] ++ [])))))) (pv := []) hW' (fun _ _ _ => (trodAll_cons_mk (shut_bool Tryz.underlying4 _) trodAll_mk0)) (fun sp hsp => DataW.TrodAll.respare own_kids own_full (by rw [Tryz.params7]; decide) (carry_all hg hB (fun pl hp => hlt pl (by simpa using hp))) (fun pl hp => hsp pl (by simpa using hp))) (fun _ _ => rfl) rfl hg⟩
theorem factSets_row : Rows.FactSetsSaid :=
  OpenClaim.holds_of_wide 7 Tryz.f7 rfl rfl rfl rfl rfl rfl rfl ⟨rfl, rfl, rfl, rfl, rfl⟩ rfl rfl rfl rfl rfl (by kernel_rfl) Tryz.func7 (by kernel_rfl)
    (of_decide_eq_true (by kernel_rfl)) (by unfold Func.isWrapper; first | (rw [if_pos (by decide +kernel)]; kernel_rfl) | (rw [if_neg (by decide +kernel)]; exact ⟨rfl, rfl⟩))
    (fun os started H enc _ => factSets_lifted os started H enc)
theorem factSets_proved : Rows.FactSetsCardSaid :=
  Claim7.holds_tied_plain_at .later [] [.data, .data, .data] true Rows.factSetsCard.stood.harness false
    factSets_row (fun _ h => by cases h) (by kernel_rfl) (fun _ h => by cases h) factSets_row_tie rfl ⟨rfl, rfl⟩ (by kernel_rfl) rfl
    (fun f fn hf hfn => by
      obtain rfl : f = 7 := Option.some.inj ((show Tryz.prog.funcNamed "multikernel/multikernellaw04.FactSets" = some 7 by kernel_rfl).symm.trans hf) |>.symm
      obtain rfl : fn = Tryz.f7 := (Option.some.inj (Tryz.func7.symm.trans hfn)).symm
      exact ⟨by kernel_rfl, fun j t ht => by
        rw [Tryz.params7] at ht
        have hm : t ∈ [26, 24, 24, 9, 3] := by simpa using Array.mem_of_getElem? ht
        have hall : ([26, 24, 24, 9, 3].all fun u => !Tryz.prog.wantsStandIn u) = true := by kernel_rfl
        exact (show Tryz.prog.wantsStandIn t = false by simpa using List.all_eq_true.1 hall t hm)⟩)
    (by kernel_rfl)
end Go.Proofs.YtmjkacgmepbljaaGreatDoor
