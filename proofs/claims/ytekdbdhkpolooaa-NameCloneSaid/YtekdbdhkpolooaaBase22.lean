/- maps.Clone: a copy of a map. -/
import Derived.Test.YtekdbdhkpolooaaBase21
import Derived.Shelf.SlMaps.Clone
open Go
namespace Mk
theorem holds_mp {m h : Hp} {b : Nat} {l : List (Value × Value)} {es : Array MapEntry} {clock : Nat} (h1 : h b = some (.map es clock)) (h2 : es.toList.map (fun e => (e.key, e.val)) = l) (h3 : (es.toList.map (·.born)).Nodup) (h4 : ∀ e ∈ es.toList, e.born < clock) : (Res.mp b l).holds m [b] h := by
  unfold Res.mp
  exact ⟨rfl, es, clock, h1, h2, h3, h4⟩
theorem Clone_mp {P : Program} {ρ : Go.Shelf.Ren} (L : Go.Proofs.SlLaysW.n5 P ρ) {Γ : Gho} {S : List Res} {w : World} {i b : Nat} {l : List (Value × Value)} (hw : Wd Γ S w) (hi : S[i]? = some (.mp b l)) :
    Calls P (ρ.f 5) #[.map (some b)] w fun e w' => ∃ b2, e = .returned (.map (some b2)) ∧ Wd Γ (.mp b2 l :: S) w' := by
  obtain ⟨es, clock, h1, h2, h3, h4⟩ := hw.at_mp hi
  refine (Go.Proofs.AnyW.maps_Clone L b es clock w h1).mono ?_
  rintro e w' ⟨rfl, rfl⟩
  exact ⟨_, rfl, hw.add (r := .mp w.heap.size l) (bs := [w.heap.size]) (w' := w.alloc (.map es clock)) ⟨rfl, rfl, rfl, (by first | exact Nat.le_refl _ | exact Nat.le_succ _), by simp⟩ (holds_mp (heap_alloc_new w _) h2 h3 h4) (by simp) (by simp) fun k hk => heap_alloc_old w _ hk⟩
end Mk
