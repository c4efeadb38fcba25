/- NameExact: under every script the name server answers as the reference does, and has its services, waiters and facts. No condition. -/
import Derived.Test.YtekdbdhkpolooaaGreatM5
import Derived.Test.YtekdbdhkpolooaaGreatM7
open Go Mk
namespace Go.Proofs.YtekdbdhkpolooaaGreat
open Go.ChangeShapes Go.WideShapes Go.ChangeAt Go.RowKit
theorem Wd.down {Γ Γ' : Gho} {w : World} (hl : Γ.le Γ') (h : Wd Γ' [] w) : Wd Γ [] w :=
  ⟨h.os.trans hl.os, h.tape.trans hl.tape, h.out.trans hl.out, by rw [← hl.dr]; exact h.dr, fun b o hb => h.imm b o (hl.imm b o hb), [], trivial, by simp, by simp⟩
set_option maxRecDepth 100000 in
theorem nameExact_lifted (os : Os) (started : os.Started) (H : Type) (enc : TypeId × Value → H) :
    ReturnsInHanded {} Tryz.checked os 3 .any (Rows.nameExactSpec.pre6 enc Tryz.prog Tryz.f3 Rows.nameExactRow.domain false) (Rows.nameExactSpec.post enc Tryz.prog Tryz.f3 false true false false) := by
  refine returnsInHanded_of_change (C := Tryz.checked) own_knob started (by kernel_rfl) Tryz.func3
    (ChangeSpec.witness6 (enc := enc) (C := Tryz.checked) false ⟨#[], #[.slice none 0 0], []⟩ 8 (by kernel_rfl) (by kernel_rfl) (by kernel_rfl) (by kernel_rfl)) ?_
  intro W base args ds gs before hval0 hW hcnd _
  have hval : ∀ (j : Nat) t v, Tryz.f3.params[j]? = some t → args[j]? = some v → Value.okWide Tryz.prog W .any base t v := hval0
  have hW' := hW
  obtain ⟨p, q, hA0, hV, rfl, hfz, hnd⟩ := hW
  have hA : DataW.TrodAll enc Tryz.prog W 0 (fun _ => true) true Tryz.f3.params.toList args.toList ds p := hA0
  have hB := hA
  rw [Tryz.params3] at hA hval
  obtain ⟨v0, vs0, d0, ds0, p0, q0, hargs, rfl, rfl, h0, r0⟩ := trodAll_cons hA
  obtain ⟨rfl, rfl, rfl⟩ := trodAll_nil r0
  obtain rfl : args = #[v0] := by cases args; simp_all
  obtain ⟨rfl, rfl⟩ := trodVars_none hV
  obtain ⟨a0, l0, c0, rfl⟩ := okWide_slice Tryz.underlying22 (hval 0 22 v0 rfl rfl)
  obtain ⟨n0, h0⟩ := h0
  obtain ⟨xs, hx⟩ := read_steps h0
  have hlt : ∀ pl ∈ p0 ++ [] ++ [], pl.block < W.heap.size := fun pl hp => by simpa using hW'.lt pl hp
  clear hA0 hval0
  refine (NameExact_any (allG W) [] W _ xs hx (allG_wd W)).mono fun e W' ⟨he, Γ', S', hle, hg⟩ => ?_
  subst he
  have hg := Wd.down hle (Wd.right hg)
  exact ⟨_, rfl, post_wd (pa := p0 ++ []) (pv := []) hW' (fun _ _ _ => (trodAll_cons_mk (shut_bool Tryz.underlying4 _) trodAll_mk0)) (fun sp hsp => DataW.TrodAll.respare own_kids own_full (by rw [Tryz.params3]; decide) (carry_all hg hB (fun pl hp => hlt pl (by simpa using hp))) (fun pl hp => hsp pl (by simpa using hp))) (fun _ _ => rfl) rfl hg⟩
theorem nameExact_proved : Rows.NameExactSaid :=
  OpenClaim.holds_of_wide 3 Tryz.f3 rfl rfl rfl rfl rfl rfl rfl ⟨rfl, rfl, rfl, rfl, rfl⟩ rfl rfl rfl rfl rfl (by kernel_rfl) Tryz.func3 (by kernel_rfl)
    (of_decide_eq_true (by kernel_rfl)) (by unfold Func.isWrapper; first | (rw [if_pos (by decide +kernel)]; kernel_rfl) | (rw [if_neg (by decide +kernel)]; exact ⟨rfl, rfl⟩))
    (fun os started H enc _ => nameExact_lifted os started H enc)
end Go.Proofs.YtekdbdhkpolooaaGreat
