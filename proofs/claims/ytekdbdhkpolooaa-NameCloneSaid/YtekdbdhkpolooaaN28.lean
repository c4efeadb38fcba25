/- The clone of a name server. -/
import Derived.Test.YtekdbdhkpolooaaN25
import Derived.Test.YtekdbdhkpolooaaL2
open Go Mk
namespace Go.Proofs.Ytekdbdhkpolooaa
set_option maxHeartbeats 4000000
attribute [local irreducible] Calls

theorem mapsClone_svc {Γ : Gho} {S : List Res} {w : World} {i bm : Nat} {m : List (ByteArray × Service)} (hw : Wd Γ S w) (hi : S[i]? = some (Res.ms svcV bm m)) :
    Calls Try.prog 45 #[.map (some bm)] w fun e w' => ∃ b2, e = .returned (.map (some b2)) ∧ Wd Γ (Res.ms svcV b2 m :: S) w' := Clone_mp lay_mapc hw hi

theorem sClone_any (Γ : Gho) (S : List Res) (w : World) (b bm : Nat) (vs : Value) (m : List (ByteArray × Service)) (ws : List Waiter) (hws : ws.length ≤ 64) (hw : Wd Γ (srvL b bm vs m ws ++ S) w) :
    Calls Try.prog 22 #[.pointer (some ⟨b, 0, none⟩)] w fun e w' => ∃ b2 bm2 vs2, e = .returned (.pointer (some ⟨b2, 0, none⟩)) ∧ Wd Γ (srvL b2 bm2 vs2 m ws ++ (srvL b bm vs m ws ++ S)) w' := by
  obtain ⟨a, n, c, rfl, hn, hnc, hc⟩ := hw.own_shape (i := 2) rfl
  refine calls_of_W Try.func22 rfl rfl ?_
  repeat (first | (first | refine W_seq ?_ | refine W_block ?_ | refine W_region ?_ | refine W_skip ?_ | refine W_ret ?_ | refine W_exit ?_) | (first | refine L_nil ?_ | (apply L_plain; first | (apply L_go; refine lP ?_) | (apply L_mf; refine lMakeFunc ?_) | refine lY ?_) | (apply L_guarded; first | refine lGT ?_ | refine lGF ?_ | (apply L_go; refine lPG ?_) | refine lG ?_)))
  refine W_mixC (srvL b bm (.slice a n c) m ws) S [7, 12, 13, 14, 2] [[],[],[],[],[0],[],[],[],[],[0],[0],[0],[0]] hw ?_
  unfold srvL
  repeat (first | refine mY ?_ | refine mP ?_)
  refine mCallX (v := undef) (T' := Nat) (fun t g => g 7 = .map (some t)) (fun t => Res.ms svcV t m :: S) (fun _ _ => _) (fun t g w Y _ hw => ?_) ?_
  · refine (mapsClone_svc (hw.perm List.perm_append_comm) (i := 1) rfl).mono ?_
    rintro e w ⟨b2, rfl, hw⟩
    refine ⟨_, rfl, b2, rfl, (fun h => by cases h), hw.perm (List.Perm.cons _ List.perm_append_comm)⟩
  repeat (first | refine mY ?_ | refine mP ?_)
  refine mCallX (v := undef) (T' := Nat × Value) (fun t g => g 7 = .map (some t.1) ∧ g 12 = t.2) (fun t => .own t.2 35 3 (ws.map enc) :: Res.ms svcV t.1 m :: S) (fun _ _ => _) (fun t g w Y ht hw => ?_) ?_
  · have hw := hw.perm (List.perm_append_comm (l₁ := Res.ms svcV t m :: S))
    refine (Clone_wtr hw (RdS.own (i := 2) hw rfl) (by omega)).mono ?_
    rintro e w ⟨v', rfl, hw⟩
    exact ⟨_, rfl, (t, v'), ⟨ht, rfl⟩, (fun h => by cases h), hw.perm (List.Perm.cons _ List.perm_append_comm)⟩
  refine mStepX (v := undef) (T' := Nat × Value) (fun t g => g 13 = .agg #[.map (some t.1), t.2]) (fun t => .own t.2 35 3 (ws.map enc) :: Res.ms svcV t.1 m :: S) (fun t g w Y ht hw => ?_) ?_
  · obtain ⟨bm2, v2⟩ := t
    obtain ⟨a2, n2, c2, rfl, -, -, -⟩ := hw.own_shape (i := 0) rfl
    have h7 : g 7 = .map (some bm2) := ht.1
    have h12 : g 12 = .slice a2 n2 c2 := ht.2
    refine Yields.step (v := .agg #[.map (some bm2), .slice a2 n2 c2]) (y_build ?_) ⟨(bm2, .slice a2 n2 c2), rfl, (fun h => by cases h), hw⟩
    · show fillL _ _ [(0, g 7), (1, g 12)] = _
      rw [h7, h12]; rfl
  refine mStepX (v := undef) (T' := Nat × Value × Nat) (fun t g => g 14 = .pointer (some ⟨t.2.2, 0, none⟩)) (fun t => .blk t.2.2 (.cells #[.map (some t.1), t.2.1] 64) :: .own t.2.1 35 3 (ws.map enc) :: Res.ms svcV t.1 m :: S) (fun t g w Y ht hw => ?_) ?_
  · exact s_box hw ht fun b' w' hw' => ⟨(t.1, t.2, b'), rfl, (fun h => by cases h), hw'⟩
  refine mStepX (v := undef) (T' := Nat × Value × Nat) (fun t g => g 2 = .pointer (some ⟨t.2.2, 0, none⟩)) (fun t => .blk t.2.2 (.cells #[.map (some t.1), t.2.1] 64) :: .own t.2.1 35 3 (ws.map enc) :: Res.ms svcV t.1 m :: S) (fun t g w Y ht hw => ?_) ?_
  · exact Yields.step (y_assign ht) ⟨t, rfl, (fun h => by cases h), hw⟩
  refine mEndX fun t w g ht hw => ?_
  obtain ⟨bm2, v2, b2⟩ := t
  repeat (first | (first | refine W_seq ?_ | refine W_block ?_ | refine W_region ?_ | refine W_skip ?_ | refine W_ret ?_ | refine W_exit ?_) | (first | refine L_nil ?_ | (apply L_plain; first | (apply L_go; refine lP ?_) | (apply L_mf; refine lMakeFunc ?_) | refine lY ?_) | (apply L_guarded; first | refine lGT ?_ | refine lGF ?_ | (apply L_go; refine lPG ?_) | refine lG ?_)))
  have h2 : g 2 = .pointer (some ⟨b2, 0, none⟩) := ht
  refine ⟨g 2, rfl, b2, bm2, v2, congrArg Ending.returned h2, ?_⟩
  have hw := hw.perm (List.perm_append_comm)
  exact hw.ps [4, 5, 5]
end Go.Proofs.Ytekdbdhkpolooaa
