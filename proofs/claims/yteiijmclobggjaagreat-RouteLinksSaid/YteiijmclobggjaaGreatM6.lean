/- Texts of this proof, one behind another. -/
import Derived.Test.YteiijmclobggjaaGreatM5
set_option linter.unusedVariables false
set_option linter.unusedSimpArgs false
/- RouteLinks, walked (printed by gen_h38.py). -/
section
open Go Mk
namespace Go.Proofs.YteiijmclobggjaaGreat
set_option maxHeartbeats 16000000
attribute [local irreducible] Calls
/-! ### distances and links -/
theorem nbr_link {ls : List LinkT} {s : Int} {q : Pl} (h : q ∈ nbrL ls s) : ∃ l ∈ ls, (l.A = s ∧ q = (l.B, l.Latency)) ∨ (l.B = s ∧ q = (l.A, l.Latency)) := by
  obtain ⟨l, hl, hq⟩ := List.mem_flatMap.1 h
  refine ⟨l, hl, ?_⟩
  rcases List.mem_append.1 hq with h1 | h1 <;> split at h1 <;> simp at h1
  · left; exact ⟨by assumption, h1⟩
  · right; exact ⟨by assumption, h1⟩
theorem link_lower {ls : List LinkT} {s t : Int} (hL : LinksOk ls) (ht : 0 ≤ t ∧ t < 64) {q : Pl} (hq : q ∈ nbrL ls s) (h0 : 0 ≤ dstI (nbrL ls) t q.1) : dstI (nbrL ls) t s ≤ q.2 + dstI (nbrL ls) t q.1 := by
  rcases dst_ex (nbr_ok hL ht) q.1 with ⟨-, h1, -⟩ | ⟨h1, -⟩
  · have h2 : Way (nbrL ls) t s (dstI (nbrL ls) t q.1 + q.2) := h1.trans (Way.one hq).symm
    rcases dst_ex (nbr_ok hL ht) s with ⟨-, -, h4⟩ | ⟨-, h4⟩
    · have := h4 _ h2; omega
    · exact absurd h2 (h4 _)
  · omega
theorem nbr_more {ls : List LinkT} {k : LinkT} {x : Int} {q : Pl} (h : q ∈ nbrL ls x) : q ∈ nbrL (ls ++ [k]) x := by
  obtain ⟨l, hl, hq⟩ := List.mem_flatMap.1 h
  exact List.mem_flatMap.2 ⟨l, by simp [hl], hq⟩
theorem way_more {ls : List LinkT} {k : LinkT} {s x d : Int} (h : Way (nbrL ls) s x d) : Way (nbrL (ls ++ [k])) s x d := by
  induction h with
  | refl => exact .refl
  | step _ hq ih => exact ih.step (nbr_more hq)
theorem dst_more {ls : List LinkT} {k : LinkT} {s x : Int} (hL : LinksOk ls) (hL' : LinksOk (ls ++ [k])) (hs : 0 ≤ s ∧ s < 64) (h0 : 0 ≤ dstI (nbrL ls) s x) : 0 ≤ dstI (nbrL (ls ++ [k])) s x ∧ dstI (nbrL (ls ++ [k])) s x ≤ dstI (nbrL ls) s x := by
  rcases dst_ex (nbr_ok hL hs) x with ⟨-, h1, -⟩ | ⟨h1, -⟩
  · rcases dst_ex (nbr_ok hL' hs) x with ⟨h2, -, h4⟩ | ⟨-, h4⟩
    · exact ⟨h2, h4 _ (way_more h1)⟩
    · exact absurd (way_more h1) (h4 _)
  · omega
theorem freeze_allR {Γ : Gho} {S : List Res} {w : World} {H : HwT} {b7 : Nat} {v1 v2 v3 v4 v5 : Value} {cs : List CacheH} (hcs : cs.map CacheH.T = H.Caches) (hok : ∀ c ∈ cs, COk Γ c) (hsz : HwSz H) (hw : Wd Γ (.blk b7 (.cells #[.string H.Name, v1, v2, v3, v4, v5] 28) :: (.own (v1) 53 4 (H.Cores.map enc)) :: (.own (v2) 65 5 (cs.map cC)) :: (.own (v3) 56 3 (H.Links.map enc)) :: (.own (v4) 67 5 (H.Mems.map enc)) :: (.own (v5) 69 5 (H.Devs.map enc)) :: S) w) :
    ∃ Γ' u, Γ.le Γ' ∧ u = .agg #[.string H.Name, v1, v2, v3, v4, v5] ∧ HwR Γ' u H ∧ Wd Γ' (.blk b7 (.cells u.cells 28) :: S) w := by
  have ho : HwOut Γ H (.blk b7 (.cells #[.string H.Name, v1, v2, v3, v4, v5] 28) :: S) (.agg #[.string H.Name, v1, v2, v3, v4, v5]) w := ⟨v1, v2, v3, v4, v5, cs, hcs, hok, rfl, hw.ps [5, 5, 5, 5, 5]⟩
  obtain ⟨Γ', h1, h2, h3⟩ := ho.freeze hsz
  exact ⟨Γ', _, h1, rfl, h2, h3⟩
theorem gen_lenR {H : HwT} {nodes sh first irq : Int} (g : Gen H nodes sh first irq) : HwLen H := by
  obtain ⟨h0, h1, h2, h3, h4, h5⟩ := counts_le (gen_counts g)
  refine ⟨by omega, by omega, by omega, by omega, by omega, fun x hx => ?_⟩
  obtain ⟨k, T, hT, hk, hc⟩ := g.ca
  rw [hc] at hx
  obtain ⟨p, hp, rfl⟩ := List.mem_map.1 hx
  have := (cacheK_cores (cacheK hT hk hp)).length_le
  rw [gen_ids g] at this
  omega
theorem valid_ends {H : HwT} (h : validS H = 0) {l : LinkT} (hl : l ∈ H.Links) : l.A ≠ l.B := by
  obtain ⟨-, h2, h3, -⟩ := valid_all h
  unfold coresRB at h3
  simp only [Bool.and_eq_true] at h3
  have := List.all_eq_true.1 h3.1.2.2 l hl
  unfold linkRB at this
  simp only [Bool.and_eq_true, decide_eq_true_eq] at this
  exact this.1.2
/-- The distance from the other end of a link. -/
theorem end_dist {H : HwT} (hv : validS H = 0) {c : CoreT} (hc : c ∈ H.Cores) {x : Int} (hx : 0 ≤ x ∧ x < 64) (hr : Reach H.Links ((usedN H).headD 0) x) : 0 ≤ dstI (nbrL H.Links) c.Node x ∧ dstI (nbrL H.Links) c.Node x ≤ 63000000 ∧ distS H x c.Node = (dstI (nbrL H.Links) c.Node x, 0) := by
  have hL := valid_links hv
  have hn := core_node hv hc
  have h0 := dstI_reach hL hn (core_reach hv hc) hr
  refine ⟨h0, (dst_le hL hn).2, ?_⟩
  have hs := dstI_sym (x := x) hL hn
  unfold distS
  rw [hs, if_pos (by unfold checkS; rw [if_pos hv, if_neg (by omega)]), if_neg (by omega)]
set_option maxRecDepth 4000 in
theorem RouteLinks_any {Γ : Gho} {S : List Res} {w : World} {a : Option Addr} {m c : Nat} {L : List Int} {x y pa0 pb0 lat0 : Int} (hr : RepS Γ (.slice a m c) 1 (intRows L)) (hw : Wd Γ S w) :
    Calls Tryz.prog 5 #[.slice a m c, .int .i64 x, .int .i64 y, .int .i64 pa0, .int .i64 pb0, .int .i64 lat0] w fun e w' => ∃ Γ', Γ.le Γ' ∧ e = .returned (.bool true) ∧ Wd Γ' S w' := by
  refine calls_of_W Tryz.func5 rfl rfl ?_
  repeat (first | refine byW ?_ | (refine byV ?_; intro w hw))
  refine W_cond rfl (fun h => ?_) (fun h => ?_)
  · repeat (first | refine byW ?_ | (refine byV ?_; intro w hw))
    exact ⟨_, rfl, Γ, .refl _, rfl, hw⟩
  clear h
  repeat (first | refine byW ?_ | (refine byV ?_; intro w hw))
  refine lCall ((Hardware_any hr hw).mono fun r w hq => ?_)
  clear hw
  obtain ⟨Γ1, H, u, nodes, sh, first, irq, hle1, rfl, hG, ho⟩ := hq
  refine ⟨_, rfl, ?_⟩
  have hv := gen_valid hG
  have hLen := gen_lenR hG
  have hSz := gen_sz hG
  have hWd := gen_wide hG
  obtain ⟨Γ2, hle2, hR, hw⟩ := ho.freeze (gen_sz hG)
  have hnc := hG.nc
  clear ho hr hG
  obtain ⟨a1, n1, c1, a2, n2, c2, a3, n3, c3, a4, n4, c4, a5, n5, c5, cs, rfl, hcs, hok, hsz, r1, r2, r3, r4, r5⟩ := hR.h
  obtain ⟨hn1, hnc1, hcc1⟩ := rep_facts r1
  obtain ⟨hn3, hnc3, hcc3⟩ := rep_facts r3
  simp only [List.length_map] at hn1 hn3
  have hLk := valid_links hv
  have hlk := hLk.1
  repeat (first | refine byW ?_ | (refine byV ?_; intro w hw))
  refine lAlloc ?_
  intro b13 w hw
  refine lStore ?_
  intro w hw
  have hw : Wd Γ2 (.blk b13 (hwC H a1 n1 c1 a2 n2 c2 a3 n3 c3 a4 n4 c4 a5 n5 c5) :: S) w := hw
  obtain ⟨k1, hk1, p1⟩ := place_at (x := x) (n := n1) (by omega) (by omega)
  obtain ⟨k2, hk2, p2⟩ := place_at (x := y) (n := n1) (by omega) (by omega)
  obtain ⟨ca, ha⟩ := get_lt (l := H.Cores) (k := k1) (by omega)
  obtain ⟨cb, hb⟩ := get_lt (l := H.Cores) (k := k2) (by omega)
  have ma := List.mem_of_getElem? ha
  have mb := List.mem_of_getElem? hb
  have hna := core_node hv ma
  have hnb := core_node hv mb
  repeat (first | refine byW ?_ | (refine byV ?_; intro w hw))
  refine W_quiet (by kernel_rfl) (by kernel_rfl) hw ?_
  repeat (first | refine Q_nil ?_ | (apply Q_plain; first | (apply Q_go; first | refine qP ?_ | refine qPg ?_) | refine qY ?_) | (apply Q_guarded; first | (apply Q_go; first | refine qPG ?_ | refine qPgG ?_) | refine qG ?_))
  intro w hw
  repeat (first | refine byW ?_ | (refine byV ?_; intro w hw))
  refine W_quiet (by kernel_rfl) (by kernel_rfl) hw ?_
  repeat (first | refine Q_nil ?_ | (apply Q_plain; first | (apply Q_go; first | refine qP ?_ | refine qPg ?_) | refine qY ?_) | (apply Q_guarded; first | (apply Q_go; first | refine qPG ?_ | refine qPgG ?_) | refine qG ?_))
  intro w hw
  have dab := core_dist hv ma mb
  have rab := core_dst hv ma mb
  rw [dstI_sym hLk hnb] at dab rab
  have hlow : ∀ q ∈ nbrL H.Links ca.Node, 0 ≤ dstI (nbrL H.Links) cb.Node q.1 → dstI (nbrL H.Links) cb.Node ca.Node ≤ q.2 + dstI (nbrL H.Links) cb.Node q.1 := fun q hq h0 => link_lower hLk hnb hq h0
  have hself : ca.Node = cb.Node → dstI (nbrL H.Links) cb.Node ca.Node = 0 := fun e => by rw [e]; exact dstI_self hLk hnb
  have hnext : ca.Node ≠ cb.Node → ∃ q ∈ nbrL H.Links ca.Node, q.2 + dstI (nbrL H.Links) cb.Node q.1 = dstI (nbrL H.Links) cb.Node ca.Node := fun hne => by
    obtain ⟨q, hq, h1, -⟩ := next_ok hLk hnb (fun x _ _ => dst_ex (nbr_ok hLk hnb) x) hna rab.1 hne
    exact ⟨q, hq, h1⟩
  have hends : ∀ l ∈ H.Links, (l.A = ca.Node → 0 ≤ dstI (nbrL H.Links) cb.Node l.B ∧ dstI (nbrL H.Links) cb.Node l.B ≤ 63000000 ∧ distS H l.B cb.Node = (dstI (nbrL H.Links) cb.Node l.B, 0) ∧ dstI (nbrL H.Links) cb.Node ca.Node ≤ l.Latency + dstI (nbrL H.Links) cb.Node l.B) ∧ (l.B = ca.Node → 0 ≤ dstI (nbrL H.Links) cb.Node l.A ∧ dstI (nbrL H.Links) cb.Node l.A ≤ 63000000 ∧ distS H l.A cb.Node = (dstI (nbrL H.Links) cb.Node l.A, 0) ∧ dstI (nbrL H.Links) cb.Node ca.Node ≤ l.Latency + dstI (nbrL H.Links) cb.Node l.A) := fun l hl => by
    have hlr := hLk.2 l hl
    refine ⟨fun e => ?_, fun e => ?_⟩
    · obtain ⟨h1, h2, h3⟩ := end_dist hv mb (x := l.B) (by omega) (.ab hl (by rw [e]; exact core_reach hv ma))
      exact ⟨h1, h2, h3, hlow (l.B, l.Latency) (by rw [← e]; exact mem_nbr_ab hl) h1⟩
    · obtain ⟨h1, h2, h3⟩ := end_dist hv mb (x := l.A) (by omega) (.ba hl (by rw [e]; exact core_reach hv ma))
      exact ⟨h1, h2, h3, hlow (l.A, l.Latency) (by rw [← e]; exact mem_nbr_ba hl) h1⟩
  have hdab : dstI (nbrL H.Links) ca.Node cb.Node = dstI (nbrL H.Links) cb.Node ca.Node := dstI_sym hLk hnb
  clear hlow
  have hBW := hw
  clear hw
  obtain ⟨D, hD⟩ : ∃ D : Int → Int, D = fun z => dstI (nbrL H.Links) cb.Node z := ⟨_, rfl⟩
  have hDz : ∀ z, dstI (nbrL H.Links) cb.Node z = D z := fun z => by rw [hD]
  simp only [hDz] at dab rab hself hnext hends hdab
  haveI q1 : PG Tryz.prog Γ2 24 [.agg #[.string H.Name, .slice a1 n1 c1, .slice a2 n2 c2, .slice a3 n3 c3, .slice a4 n4 c4, .slice a5 n5 c5], .int .i64 ca.Node, .int .i64 cb.Node] (.tuple #[.int .i64 (D ca.Node), .int .i64 0]) := by
    have := pg_Distance (hh := hR) ca.Node cb.Node; rwa [dab] at this
  have hw := hBW
  clear hBW
  repeat (first | refine byW ?_ | (refine byV ?_; intro w hw))
  refine W_loop (fun μ ρ w => ∃ (k : Nat) (b : Int), μ + k = n3 ∧ ((b = -1 ∧ ∀ (i : Nat) (l : LinkT), i < k → H.Links[i]? = some l → l.A ≠ ca.Node ∧ l.B ≠ ca.Node) ∨ (0 ≤ b ∧ b ≤ 64000000 ∧ D ca.Node ≤ b ∧ ∀ (i : Nat) (l : LinkT), i < k → H.Links[i]? = some l → (l.A = ca.Node → b ≤ l.Latency + D l.B) ∧ (l.B = ca.Node → b ≤ l.Latency + D l.A))) ∧ Has ρ [(3, .int .i64 pa0), (4, .int .i64 pb0), (5, .int .i64 lat0), (13, .pointer (some ⟨b13, 0, none⟩)), (14, .int .i64 ca.Node), (15, .int .i64 cb.Node), (16, .int .i64 (D ca.Node)), (17, .int .i64 0), (18, .int .i64 b), (19, .int .i64 k)] ∧ Wd Γ2 (.blk b13 (hwC H a1 n1 c1 a2 n2 c2 a3 n3 c3 a4 n4 c4 a5 n5 c5) :: S) w) n3 ⟨0, -1, by omega, .inl ⟨rfl, fun i l h => by omega⟩, ⟨rfl, rfl, rfl, rfl, rfl, rfl, rfl, rfl, rfl, rfl, trivial⟩, hw⟩ ?_
  clear hw
  rintro μ ρ w ⟨k, b, hk, hor, hρ, hw⟩
  rw [hρ.eq]
  clear hρ
  repeat (first | refine byW ?_ | (refine byV ?_; intro w hw))
  refine W_cond rfl (fun h => ?_) (fun h => ?_)
  · have hkn : k < n3 := by have := of_decide_eq_true h; omega
    clear h
    obtain ⟨l, hl⟩ := get_lt (l := H.Links) (k := k) (by omega)
    have hlm := List.mem_of_getElem? hl
    obtain ⟨heA, heB⟩ := hends l hlm
    have hla := lats_ok hLk l hlm
    have hlr := hLk.2 l hlm
    have hAB : l.A ≠ l.B := valid_ends hv hlm
    repeat (first | refine byW ?_ | (refine byV ?_; intro w hw))
    refine lAlloc ?_
    intro b20 w hw
    refine lStore ?_
    intro w hw
    have hw : Wd Γ2 (.blk b20 (.cells #[.int .i64 l.A, .int .i64 l.B, .int .i64 l.Latency] 56) :: .blk b13 (hwC H a1 n1 c1 a2 n2 c2 a3 n3 c3 a4 n4 c4 a5 n5 c5) :: S) w := hw
    refine L_nil ?_
    refine W_seq ?_
    refine W_cutT (fun ρ w => ∃ pa pb : Int, ((l.B = ca.Node ∧ pa = ca.Node ∧ pb = l.A) ∨ (l.B ≠ ca.Node ∧ pa = l.A ∧ pb = l.B)) ∧ Has ρ [(3, .int .i64 pa0), (4, .int .i64 pb0), (5, .int .i64 lat0), (13, .pointer (some ⟨b13, 0, none⟩)), (14, .int .i64 ca.Node), (15, .int .i64 cb.Node), (16, .int .i64 (D ca.Node)), (17, .int .i64 0), (18, .int .i64 b), (19, .int .i64 k), (20, .pointer (some ⟨b20, 0, none⟩))] ∧ Wd Γ2 (.blk b20 (.cells #[.int .i64 pa, .int .i64 pb, .int .i64 l.Latency] 56) :: .blk b13 (hwC H a1 n1 c1 a2 n2 c2 a3 n3 c3 a4 n4 c4 a5 n5 c5) :: S) w) ?_ ?_
    · repeat (first | refine byW ?_ | (refine byV ?_; intro w hw))
      refine W_cond rfl (fun h => ?_) (fun h => ?_)
      · have h : l.B = ca.Node := of_decide_eq_true h
        repeat (first | refine byW ?_ | (refine byV ?_; intro w hw))
        refine lStore ?_
        intro w hw
        have hw : Wd Γ2 (.blk b20 (.cells #[.int .i64 l.B, .int .i64 l.B, .int .i64 l.Latency] 56) :: .blk b13 (hwC H a1 n1 c1 a2 n2 c2 a3 n3 c3 a4 n4 c4 a5 n5 c5) :: S) w := hw
        repeat (first | refine byW ?_ | (refine byV ?_; intro w hw))
        refine lStore ?_
        intro w hw
        have hw : Wd Γ2 (.blk b20 (.cells #[.int .i64 l.B, .int .i64 l.A, .int .i64 l.Latency] 56) :: .blk b13 (hwC H a1 n1 c1 a2 n2 c2 a3 n3 c3 a4 n4 c4 a5 n5 c5) :: S) w := hw
        repeat (first | refine byW ?_ | (refine byV ?_; intro w hw))
        exact ⟨l.B, l.A, .inl ⟨h, h, rfl⟩, ⟨rfl, rfl, rfl, rfl, rfl, rfl, rfl, rfl, rfl, rfl, rfl, trivial⟩, hw⟩
      · have h : ¬ l.B = ca.Node := of_decide_eq_false h
        repeat (first | refine byW ?_ | (refine byV ?_; intro w hw))
        exact ⟨l.A, l.B, .inr ⟨h, rfl, rfl⟩, ⟨rfl, rfl, rfl, rfl, rfl, rfl, rfl, rfl, rfl, rfl, rfl, trivial⟩, hw⟩
    clear hw
    rintro ρ w ⟨pa, pb, hpp, hρ, hw⟩
    rw [hρ.eq]
    clear hρ
    repeat (first | refine byW ?_ | (refine byV ?_; intro w hw))
    refine W_cond rfl (fun h => ?_) (fun h => ?_)
    · have h : pa ≠ ca.Node := by have := of_decide_eq_true h; simpa using this
      have hno : l.A ≠ ca.Node ∧ l.B ≠ ca.Node := by
        rcases hpp with ⟨-, h2, -⟩ | ⟨h1, h2, -⟩
        · exact absurd h2 h
        · exact ⟨by rw [← h2]; exact h, h1⟩
      repeat (first | refine byW ?_ | (refine byV ?_; intro w hw))
      refine ⟨μ - 1, by omega, k + 1, b, by omega, ?_, ⟨rfl, rfl, rfl, rfl, rfl, rfl, rfl, rfl, rfl, rfl, trivial⟩, hw.drop⟩
      rcases hor with ⟨h1, h2⟩ | ⟨h1, h2, h3, h4⟩
      · refine .inl ⟨h1, fun i l' hi hl' => ?_⟩
        by_cases e : i = k
        · subst e; rw [hl] at hl'; cases hl'; exact hno
        · exact h2 i l' (by omega) hl'
      · refine .inr ⟨h1, h2, h3, fun i l' hi hl' => ?_⟩
        by_cases e : i = k
        · subst e; rw [hl] at hl'; cases hl'; exact ⟨fun e => absurd e hno.1, fun e => absurd e hno.2⟩
        · exact h4 i l' (by omega) hl'
    · have h : pa = ca.Node := by have := of_decide_eq_false h; simpa using this
      have hends2 : 0 ≤ D pb ∧ D pb ≤ 63000000 ∧ distS H pb cb.Node = (D pb, 0) ∧ D ca.Node ≤ l.Latency + D pb ∧ ∀ z : Int, z ≤ l.Latency + D pb → (l.A = ca.Node → z ≤ l.Latency + D l.B) ∧ (l.B = ca.Node → z ≤ l.Latency + D l.A) := by
        rcases hpp with ⟨h1, -, h3⟩ | ⟨h1, h2, h3⟩
        · obtain ⟨g1, g2, g3, g4⟩ := heB h1
          rw [h3]
          exact ⟨g1, g2, g3, g4, fun z hz => ⟨fun e => absurd (e.trans h1.symm) hAB, fun _ => hz⟩⟩
        · obtain ⟨g1, g2, g3, g4⟩ := heA (by rw [← h2]; exact h)
          rw [h3]
          exact ⟨g1, g2, g3, g4, fun z hz => ⟨fun _ => hz, fun e => absurd e h1⟩⟩
      obtain ⟨g1, g2, g3, g4, g5⟩ := hends2
      haveI q2 : PG Tryz.prog Γ2 24 [.agg #[.string H.Name, .slice a1 n1 c1, .slice a2 n2 c2, .slice a3 n3 c3, .slice a4 n4 c4, .slice a5 n5 c5], .int .i64 pb, .int .i64 cb.Node] (.tuple #[.int .i64 (D pb), .int .i64 0]) := by
        have := pg_Distance (hh := hR) pb cb.Node; rwa [g3] at this
      generalize D pb = dp at *
      repeat (first | refine byW ?_ | (refine byV ?_; intro w hw))
      refine W_cond_false rfl ?_
      repeat (first | refine byW ?_ | (refine byV ?_; intro w hw))
      refine W_cond rfl (fun h => ?_) (fun h => ?_)
      · have h : (decide (b < 0) || decide (l.Latency + dp < b)) = true := h
        simp only [Bool.or_eq_true, decide_eq_true_eq] at h
        repeat (first | refine byW ?_ | (refine byV ?_; intro w hw))
        refine ⟨μ - 1, by omega, k + 1, l.Latency + dp, by omega, .inr ⟨by omega, by omega, g4, fun i l' hi hl' => ?_⟩, ⟨rfl, rfl, rfl, rfl, rfl, rfl, rfl, rfl, rfl, rfl, trivial⟩, hw.drop⟩
        by_cases e : i = k
        · subst e; rw [hl] at hl'; cases hl'; exact g5 _ (Int.le_refl _)
        · rcases hor with ⟨h1, h2⟩ | ⟨h1, h2, h3, h4⟩
          · have := h2 i l' (by omega) hl'
            exact ⟨fun e => absurd e this.1, fun e => absurd e this.2⟩
          · have := h4 i l' (by omega) hl'
            exact ⟨fun e => by have := this.1 e; omega, fun e => by have := this.2 e; omega⟩
      · have h : (decide (b < 0) || decide (l.Latency + dp < b)) = false := h
        simp only [Bool.or_eq_false_iff, decide_eq_false_iff_not] at h
        repeat (first | refine byW ?_ | (refine byV ?_; intro w hw))
        refine ⟨μ - 1, by omega, k + 1, b, by omega, ?_, ⟨rfl, rfl, rfl, rfl, rfl, rfl, rfl, rfl, rfl, rfl, trivial⟩, hw.drop⟩
        rcases hor with ⟨h1, h2⟩ | ⟨h1, h2, h3, h4⟩
        · omega
        · refine .inr ⟨h1, h2, h3, fun i l' hi hl' => ?_⟩
          by_cases e : i = k
          · subst e; rw [hl] at hl'; cases hl'; exact g5 b (by omega)
          · exact h4 i l' (by omega) hl'
  have hkn : ¬ k < n3 := by have := of_decide_eq_false h; omega
  have hbest : ca.Node ≠ cb.Node → D ca.Node = b := fun hne => by
    obtain ⟨q, hq, hqe⟩ := hnext hne
    obtain ⟨l, hlm, hcase⟩ := nbr_link hq
    obtain ⟨i, hi⟩ := List.getElem?_of_mem hlm
    have hik : i < k := by have := (List.getElem?_eq_some_iff.1 hi).1; omega
    rcases hor with ⟨-, h2⟩ | ⟨h1, h2, h3, h4⟩
    · have := h2 i l hik hi
      rcases hcase with ⟨e, -⟩ | ⟨e, -⟩
      · exact absurd e this.1
      · exact absurd e this.2
    · have := h4 i l hik hi
      rcases hcase with ⟨e, rfl⟩ | ⟨e, rfl⟩
      · have := this.1 e; simp only at hqe; omega
      · have := this.2 e; simp only at hqe; omega
  clear h hkn hk hor
  repeat (first | refine byW ?_ | (refine byV ?_; intro w hw))
  refine W_cond rfl (fun h => False.elim ?_) (fun h => ?_)
  · have h : ((decide ((0 : Int) ≠ 0) || (decide (ca.Node ≠ cb.Node) && decide (D ca.Node ≠ b))) || (decide (ca.Node = cb.Node) && decide (D ca.Node ≠ 0))) = true := h
    simp only [Bool.or_eq_true, Bool.and_eq_true, decide_eq_true_eq] at h
    rcases h with (h | ⟨h1, h2⟩) | ⟨h1, h2⟩
    · exact h rfl
    · exact h2 (hbest h1)
    · exact h2 (hself h1)
  clear h
  repeat (first | refine byW ?_ | (refine byV ?_; intro w hw))
  refine lCall ((Copy_any (hh := hR) hLen hw).mono fun e w hq => ?_)
  clear hw
  obtain ⟨u', rfl, hw⟩ := hq
  refine ⟨_, rfl, ?_⟩
  unfold Res.hw at hw
  obtain ⟨⟨p, hu', hcs'⟩, hw⟩ := hw.openEx
  obtain ⟨v1, v2, v3, v4, v5, cs'⟩ := p
  have hu' : u' = .agg #[.string H.Name, v1, v2, v3, v4, v5] := hu'
  have hcs' : cs'.map CacheH.T = H.Caches := hcs'
  subst hu'
  have hw : Wd Γ2 (cs'.map ownC ++ (.own v1 53 4 (H.Cores.map enc) :: .own v2 65 5 (cs'.map cC) :: .own v3 56 3 (H.Links.map enc) :: .own v4 67 5 (H.Mems.map enc) :: .own v5 69 5 (H.Devs.map enc) :: .blk b13 (hwC H a1 n1 c1 a2 n2 c2 a3 n3 c3 a4 n4 c4 a5 n5 c5) :: S)) w := hw.perm (by
    show ((.own v1 53 4 (H.Cores.map enc) :: .own v2 65 5 (cs'.map cC) :: .own v3 56 3 (H.Links.map enc) :: .own v4 67 5 (H.Mems.map enc) :: .own v5 69 5 (H.Devs.map enc) :: cs'.map ownC) ++ (.blk b13 (hwC H a1 n1 c1 a2 n2 c2 a3 n3 c3 a4 n4 c4 a5 n5 c5) :: S)).Perm _
    exact byPM)
  obtain ⟨Γ3, hle3, hok', hw⟩ := freezeC hw
  obtain ⟨A1, N1, C1, rfl, hN1, hM1, hX1⟩ := hw.own_shape (i := 0) rfl
  obtain ⟨A2, N2, C2, rfl, hN2, hM2, hX2⟩ := hw.own_shape (i := 1) rfl
  obtain ⟨A3, N3, C3, rfl, hN3, hM3, hX3⟩ := hw.own_shape (i := 2) rfl
  obtain ⟨A4, N4, C4, rfl, hN4, hM4, hX4⟩ := hw.own_shape (i := 3) rfl
  obtain ⟨A5, N5, C5, rfl, hN5, hM5, hX5⟩ := hw.own_shape (i := 4) rfl
  simp only [List.length_map] at hN3
  repeat (first | refine byW ?_ | (refine byV ?_; intro w hw))
  refine lAlloc ?_
  intro b24 w hw
  refine lStore ?_
  intro w hw
  have hw : Wd Γ3 (.blk b24 (.cells #[.string H.Name, .slice A1 N1 C1, .slice A2 N2 C2, .slice A3 N3 C3, .slice A4 N4 C4, .slice A5 N5 C5] 28) :: .own (.slice A1 N1 C1) 53 4 (H.Cores.map enc) :: .own (.slice A2 N2 C2) 65 5 (cs'.map cC) :: .own (.slice A3 N3 C3) 56 3 (H.Links.map enc) :: .own (.slice A4 N4 C4) 67 5 (H.Mems.map enc) :: .own (.slice A5 N5 C5) 69 5 (H.Devs.map enc) :: .blk b13 (hwC H a1 n1 c1 a2 n2 c2 a3 n3 c3 a4 n4 c4 a5 n5 c5) :: S) w := hw
  haveI : PosL 64 := ⟨by decide⟩
  haveI : PosL 20 := ⟨by decide⟩
  obtain ⟨za, hza⟩ : ∃ z : Int, pa0 % 64 = z := ⟨_, rfl⟩
  obtain ⟨zb, hzb⟩ : ∃ z : Int, pb0 % 64 = z := ⟨_, rfl⟩
  obtain ⟨zl, hzl⟩ : ∃ z : Int, lat0 % 20 = z := ⟨_, rfl⟩
  have hzl0 : 0 ≤ zl ∧ zl < 20 := by omega
  haveI pp1 : PC Tryz.prog 23 [.int .i64 pa0, .int .i64 64] (.int .i64 za) := by rw [← hza]; infer_instance
  haveI pp2 : PC Tryz.prog 23 [.int .i64 pb0, .int .i64 64] (.int .i64 zb) := by rw [← hzb]; infer_instance
  haveI pp3 : PC Tryz.prog 23 [.int .i64 lat0, .int .i64 20] (.int .i64 zl) := by rw [← hzl]; infer_instance
  clear hza hzb hzl
  repeat (first | refine byW ?_ | (refine byV ?_; intro w hw))
  refine W_mix2 ([.own (.slice A1 N1 C1) 53 4 (H.Cores.map enc), .own (.slice A2 N2 C2) 65 5 (cs'.map cC), .own (.slice A4 N4 C4) 67 5 (H.Mems.map enc), .own (.slice A5 N5 C5) 69 5 (H.Devs.map enc), .blk b13 (hwC H a1 n1 c1 a2 n2 c2 a3 n3 c3 a4 n4 c4 a5 n5 c5)]) (.blk b24 (.cells #[.string H.Name, .slice A1 N1 C1, .slice A2 N2 C2, .slice A3 N3 C3, .slice A4 N4 C4, .slice A5 N5 C5] 28) :: .own (.slice A3 N3 C3) 56 3 (H.Links.map enc) :: S) [[],[],[],[],[],[],[],[],[],[],[1],[0],[],[0]] [[],[0],[],[],[],[],[],[],[],[],[1],[0,1],[],[0]] [[145], [144]] (hw.perm byPM) ?_
  repeat (first | refine mY ?_ | refine mP ?_ | refine mPg ?_)
  refine mY (v := .agg (enc (⟨za, zb, 1 + zl⟩ : LinkT)).toArray) ?_ (hy := fun Y w g hw => y_build rfl)
  refine mBuild [enc (⟨za, zb, 1 + zl⟩ : LinkT)] ?_
  refine mApp ?_
  repeat (first | refine mY ?_ | refine mP ?_ | refine mEndAt ?_ | refine mEnd0 ?_ | refine mEnd ?_)
  refine mStoreV ?_
  refine mEnd fun w g hw => ?_
  have hw := Wd.dropEnd hw
  have hw : Wd Γ3 ([.own (.slice A1 N1 C1) 53 4 (H.Cores.map enc), .own (.slice A2 N2 C2) 65 5 (cs'.map cC), .own (.slice A4 N4 C4) 67 5 (H.Mems.map enc), .own (.slice A5 N5 C5) 69 5 (H.Devs.map enc), .blk b13 (hwC H a1 n1 c1 a2 n2 c2 a3 n3 c3 a4 n4 c4 a5 n5 c5)] ++ (.blk b24 (.cells #[.string H.Name, .slice A1 N1 C1, .slice A2 N2 C2, g 145, .slice A4 N4 C4, .slice A5 N5 C5] 28) :: .own (g 145) 56 3 (H.Links.map enc ++ [enc (⟨za, zb, 1 + zl⟩ : LinkT)]) :: S)) w := hw
  generalize g 145 = vv at hw
  rw [show H.Links.map enc ++ [enc (⟨za, zb, 1 + zl⟩ : LinkT)] = (H.Links ++ [(⟨za, zb, 1 + zl⟩ : LinkT)]).map enc from by simp] at hw
  obtain ⟨Γ4, u4, hle4, hu4, hR4, hw⟩ := freeze_allR (H := { H with Links := H.Links ++ [⟨za, zb, 1 + zl⟩] }) (cs := cs') (S := .blk b13 (hwC H a1 n1 c1 a2 n2 c2 a3 n3 c3 a4 n4 c4 a5 n5 c5) :: S) hcs' hok' hSz (by
    have hw : Wd Γ3 (.blk b24 (.cells #[.string H.Name, .slice A1 N1 C1, .slice A2 N2 C2, vv, .slice A4 N4 C4, .slice A5 N5 C5] 28) :: .own (.slice A1 N1 C1) 53 4 (H.Cores.map enc) :: .own (.slice A2 N2 C2) 65 5 (cs'.map cC) :: .own vv 56 3 ((H.Links ++ [(⟨za, zb, 1 + zl⟩ : LinkT)]).map enc) :: .own (.slice A4 N4 C4) 67 5 (H.Mems.map enc) :: .own (.slice A5 N5 C5) 69 5 (H.Devs.map enc) :: .blk b13 (hwC H a1 n1 c1 a2 n2 c2 a3 n3 c3 a4 n4 c4 a5 n5 c5) :: S) w := hw.perm byPM
    exact hw)
  haveI hR4' := hR4
  haveI hWd4 : WideH { H with Links := H.Links ++ [⟨za, zb, 1 + zl⟩] } := ⟨hWd⟩
  refine W_has (l := [(14, .int .i64 ca.Node), (15, .int .i64 cb.Node), (16, .int .i64 (D ca.Node)), (24, .pointer (some ⟨b24, 0, none⟩))]) ⟨rfl, rfl, rfl, rfl, trivial⟩ fun ρ' hρ' => ?_
  rw [hρ'.eq]
  clear hρ'
  obtain ⟨E1, M1, K1, E2, M2, K2, E3, M3, K3, E4, M4, K4, E5, M5, K5, cs5, rfl, -⟩ := hR4.h
  have hw : Wd Γ4 (.blk b24 (.cells #[.string H.Name, .slice E1 M1 K1, .slice E2 M2 K2, .slice E3 M3 K3, .slice E4 M4 K4, .slice E5 M5 K5] 28) :: .blk b13 (hwC H a1 n1 c1 a2 n2 c2 a3 n3 c3 a4 n4 c4 a5 n5 c5) :: S) w := hw
  have hle : Γ.le Γ4 := hle1.trans (hle2.trans (hle3.trans hle4))
  repeat (first | refine byW ?_ | (refine byV ?_; intro w hw))
  refine W_cond rfl (fun h => ?_) (fun h => ?_)
  · repeat (first | refine byW ?_ | (refine byV ?_; intro w hw))
    exact ⟨_, rfl, Γ4, hle, rfl, hw.ds [0, 0]⟩
  have hv' : validS { H with Links := H.Links ++ [(⟨za, zb, 1 + zl⟩ : LinkT)] } = 0 := by have := of_decide_eq_false h; simpa using this
  clear h
  have hLk' : LinksOk (H.Links ++ [⟨za, zb, 1 + zl⟩]) := valid_links hv'
  obtain ⟨hm0, hm1⟩ := dst_more (k := ⟨za, zb, 1 + zl⟩) (x := cb.Node) hLk hLk' hna (by rw [hdab]; exact rab.1)
  rw [hdab] at hm1
  have hdis : distS { H with Links := H.Links ++ [(⟨za, zb, 1 + zl⟩ : LinkT)] } ca.Node cb.Node = (dstI (nbrL (H.Links ++ [⟨za, zb, 1 + zl⟩])) ca.Node cb.Node, 0) := by
    unfold distS
    rw [if_pos (by unfold checkS; rw [if_pos hv', if_neg (by omega)]), if_neg (by show ¬ dstI (nbrL (H.Links ++ [⟨za, zb, 1 + zl⟩])) ca.Node cb.Node < 0; omega)]
  haveI q3 : PG Tryz.prog Γ4 24 [.agg #[.string H.Name, .slice E1 M1 K1, .slice E2 M2 K2, .slice E3 M3 K3, .slice E4 M4 K4, .slice E5 M5 K5], .int .i64 ca.Node, .int .i64 cb.Node] (.tuple #[.int .i64 (dstI (nbrL (H.Links ++ [⟨za, zb, 1 + zl⟩])) ca.Node cb.Node), .int .i64 0]) := by
    have := pg_Distance (hh := hR4') ca.Node cb.Node
    rwa [hdis] at this
  generalize dstI (nbrL (H.Links ++ [⟨za, zb, 1 + zl⟩])) ca.Node cb.Node = dn at *
  have hb1 : decide (dn ≤ D ca.Node) = true := decide_eq_true hm1
  repeat (first | (first | refine W_seq ?_ | refine W_block ?_ | refine W_region ?_ | refine W_skip ?_ | refine W_ret ?_ | refine W_exit ?_) | ((first | apply L_bin | apply L_notop); first | (refine lT ?_ ?_; (first | exact rfl | exact decide_eq_true rfl | exact hb1 | exact hb2 | exact hb3 | exact hb4 | (focus (simp; done)))) | (refine lF ?_ ?_; (first | exact rfl | exact decide_eq_true rfl | exact hb1 | exact hb2 | exact hb3 | exact hb4 | (focus (simp; done))))) | (first | refine L_nil ?_ | (apply L_plain; first | (apply L_go; first | refine lP ?_ | (refine lPg ?_; intro w hw)) | (apply L_mf; refine lMakeFunc ?_) | refine lY ?_) | (apply L_guarded; first | refine lGT ?_ (hct := rfl) | refine lGF ?_ (hct := rfl) | (apply L_go; first | refine lPG ?_ | (refine lPgG ?_; intro w hw)) | refine lG ?_)) | (refine lAlloc ?_; intro _ w hw) | (refine lBox ?_; intro _ w hw) | (refine lStore ?_; intro w hw))
  exact ⟨_, rfl, Γ4, hle, rfl, hw.ds [0, 0]⟩
end Go.Proofs.YteiijmclobggjaaGreat
end
