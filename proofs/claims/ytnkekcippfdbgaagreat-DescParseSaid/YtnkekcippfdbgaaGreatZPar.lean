/- DescParse: Parse equals the reference, for every text. No condition. -/
import Derived.Test.YtnkekcippfdbgaaGreatM5
import Derived.Test.YtnkekcippfdbgaaGreatM6
import Derived.ChangeMaps5
open Go Mk
namespace Go.Proofs.YtnkekcippfdbgaaGreat
open Go.ChangeShapes Go.WideShapes Go.ChangeAt Go.RowKit
set_option maxRecDepth 100000 in
theorem descParse_lifted (os : Os) (started : os.Started) (H : Type) (enc : TypeId × Value → H) :
    ReturnsInHanded {} Tryz.checked os 3 .any (Rows.descParseSpec.pre6 enc Tryz.prog Tryz.f3 Rows.descParseRow.domain false) (Rows.descParseSpec.post enc Tryz.prog Tryz.f3 false true false false) := by
  refine returnsInHanded_of_change (C := Tryz.checked) own_knob started (by kernel_rfl) Tryz.func3
    (ChangeSpec.witness6 (enc := enc) (C := Tryz.checked) false ⟨#[], #[.string ⟨#[]⟩], []⟩ 8 (by kernel_rfl) (by kernel_rfl) (by kernel_rfl) (by kernel_rfl)) ?_
  intro W base args ds gs before hval0 hW hcnd _
  have hval : ∀ (j : Nat) t v, Tryz.f3.params[j]? = some t → args[j]? = some v → Value.okWide Tryz.prog W .any base t v := hval0
  have hW' := hW
  obtain ⟨p, q, hA0, hV, rfl, hfz, hnd⟩ := hW
  have hA : DataW.TrodAll enc Tryz.prog W 0 (fun _ => true) true Tryz.f3.params.toList args.toList ds p := hA0
  have hB := hA
  rw [Tryz.params3] at hA hval
  obtain ⟨v0, vs0, d0, ds0, p0, q0, hargs, rfl, rfl, h0, r0⟩ := trodAll_cons hA
  obtain ⟨rfl, rfl, rfl⟩ := trodAll_nil r0
  obtain rfl : args = #[v0] := by cases args; simp_all
  obtain ⟨rfl, rfl⟩ := trodVars_none hV
  obtain ⟨a0, rfl, rfl, rfl, w0⟩ := Go.ChangeMaps.open_string Tryz.underlying9 (hval 0 9 v0 rfl rfl) h0
  have hlt : ∀ pl ∈ (([] : List MemPlace) ++ []) ++ [], pl.block < W.heap.size := fun pl hp => by simp at hp
  clear hA0 hval0
  refine (DescParse_any a0 (allG_wd W)).mono fun e W' ⟨Γ', hle, he, hg0⟩ => ?_
  have hg := wd_back hle hg0
  subst he
  exact ⟨_, rfl, post_wd (pa := ([] ++ [])) (pv := []) hW' (fun _ _ _ => (trodAll_cons_mk (shut_bool Tryz.underlying4 _) trodAll_mk0)) (fun sp hsp => DataW.TrodAll.respare own_kids own_full (by rw [Tryz.params3]; decide) (carry_all hg hB (fun pl hp => hlt pl (by simp at hp))) (fun pl hp => hsp pl (by simp at hp))) (fun _ _ => rfl) rfl hg⟩
theorem descParse_proved : Rows.DescParseSaid :=
  OpenClaim.holds_of_wide 3 Tryz.f3 rfl rfl rfl rfl rfl rfl rfl ⟨rfl, rfl, rfl, rfl, rfl⟩ rfl rfl rfl rfl rfl (by kernel_rfl) Tryz.func3 (by kernel_rfl)
    (of_decide_eq_true (by kernel_rfl)) (by unfold Func.isWrapper; first | (rw [if_pos (by decide +kernel)]; kernel_rfl) | (rw [if_neg (by decide +kernel)]; exact ⟨rfl, rfl⟩))
    (fun os started H enc _ => descParse_lifted os started H enc)
end Go.Proofs.YtnkekcippfdbgaaGreat
