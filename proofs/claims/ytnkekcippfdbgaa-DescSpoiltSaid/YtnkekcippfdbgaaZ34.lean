/- CoreAt, and the walk through DescSpoilt (printed by a program). -/
import Derived.Test.YtnkekcippfdbgaaM5
open Go Mk
namespace Go.Proofs.Ytnkekcippfdbgaa
set_option maxHeartbeats 16000000
attribute [local irreducible] Calls

/-- The place of the first core with an ID, or -1. -/
def coreAt (l : List CoreT) (id : Int) : Int := match l.findIdx? (fun x => decide (x.ID = id)) with | some k => k | none => -1
theorem coreAt_some {l : List CoreT} {id : Int} {k : Nat} {x : CoreT} (hx : l[k]? = some x) (he : x.ID = id) (hl : ∀ j y, j < k → l[j]? = some y → y.ID ≠ id) : coreAt l id = k := by
  have : l.findIdx? (fun x => decide (x.ID = id)) = some k := by
    obtain ⟨hk, hg⟩ := List.getElem?_eq_some_iff.1 hx
    rw [List.findIdx?_eq_some_iff_getElem]
    refine ⟨hk, by rw [hg]; simpa using he, fun j hj => ?_⟩
    have := hl j l[j] hj (List.getElem?_eq_getElem _)
    simpa using this
  unfold coreAt; rw [this]
theorem coreAt_none {l : List CoreT} {id : Int} (hl : ∀ y ∈ l, y.ID ≠ id) : coreAt l id = -1 := by
  have : l.findIdx? (fun x => decide (x.ID = id)) = none := by
    rw [List.findIdx?_eq_none_iff]
    intro y hy; simpa using hl y hy
  unfold coreAt; rw [this]
theorem coreAt_any {l : List CoreT} {id : Int} : decide (0 ≤ coreAt l id) = l.any fun x => decide (x.ID = id) := by
  unfold coreAt
  cases h : l.findIdx? (fun x => decide (x.ID = id)) with
  | none =>
    rw [List.findIdx?_eq_none_iff] at h
    symm
    show _ = false
    rw [List.any_eq_false]
    intro x hx; simpa using h x hx
  | some k =>
    have h0 : (0 : Int) ≤ (k : Int) := by omega
    show decide ((0 : Int) ≤ (k : Int)) = _
    rw [decide_eq_true h0]
    symm
    obtain ⟨hk, hg, -⟩ := List.findIdx?_eq_some_iff_getElem.1 h
    exact List.any_eq_true.2 ⟨l[k], List.getElem_mem hk, hg⟩
theorem CoreAt_any {Γ : Gho} {S : List Res} {w : World} {l : List CoreT} {u0 u2 u3 u4 u5 : Value} {s : ByteArray} {a1 : Option Addr} {n1 c1 : Nat} {id : Int} (r1 : RdS Γ S (.slice a1 n1 c1) 4 (l.map enc)) (hu : u0 = .agg #[.string s, .slice a1 n1 c1, u2, u3, u4, u5]) (h2 : u2.oneCell' = true) (h3 : u3.oneCell' = true) (h4 : u4.oneCell' = true) (h5 : u5.oneCell' = true) (hw : Wd Γ S w) :
    Calls Try.prog 8 #[u0, .int .i64 id] w fun e w' => e = .returned (.int .i64 (coreAt l id)) ∧ Wd Γ S w' := by
  subst hu
  obtain ⟨hn1, hm1, hx1⟩ := rdS_facts r1
  simp only [List.length_map] at hn1
  refine calls_of_W Try.func8 rfl rfl ?_
  repeat (first | refine byW ?_ | (refine byV ?_; intro w hw))
  refine lBox ?_
  intro b1 w hw
  have hw : Wd Γ (.blk b1 (.cells (#[.string s, .slice a1 n1 c1, u2, u3, u4, u5] : Array Value) 30) :: S) w := by
    have e : (Value.agg #[.string s, .slice a1 n1 c1, u2, u3, u4, u5]).cells = #[.string s, .slice a1 n1 c1, u2, u3, u4, u5] := rfl
    rw [e] at hw; exact hw
  repeat (first | refine byW ?_ | (refine byV ?_; intro w hw))
  refine W_loop (fun μ ρ w => ∃ (k : Nat), μ + k = n1 ∧ (∀ j y, j < k → l[j]? = some y → y.ID ≠ id) ∧ Has ρ [(1, .int .i64 id), (2, .pointer (some ⟨b1, 0, none⟩)), (5, .int .i64 (k : Nat))] ∧ Wd Γ (.blk b1 (.cells (#[.string s, .slice a1 n1 c1, u2, u3, u4, u5] : Array Value) 30) :: S) w) n1 ⟨0, by omega, by simp, ⟨rfl, rfl, rfl, trivial⟩, hw⟩ ?_
  clear hw
  rintro μ ρ w ⟨k, hk, hj, hρ, hw⟩
  rw [hρ.eq]
  have q1 : RdS Γ (.blk b1 (.cells (#[.string s, .slice a1 n1 c1, u2, u3, u4, u5] : Array Value) 30) :: S) (.slice a1 n1 c1) 4 (l.map enc) := r1.cons
  repeat (first | refine byW ?_ | (refine byV ?_; intro w hw))
  refine W_cond rfl (fun h => ?_) (fun h => ?_)
  · have hkn : k < n1 := by simpa using h
    obtain ⟨x, hx⟩ := get_lt (l := l) (k := k) (by omega)
    repeat (first | refine byW ?_ | (refine byV ?_; intro w hw))
    refine W_cond rfl (fun h2 => ?_) (fun h2 => ?_)
    · rw [coreAt_some hx (of_decide_eq_true h2) hj]
      repeat (first | refine byW ?_ | (refine byV ?_; intro w hw))
      exact ⟨_, rfl, rfl, hw.drop⟩
    · repeat (first | refine byW ?_ | (refine byV ?_; intro w hw))
      refine ⟨μ - 1, by omega, k + 1, by omega, fun j y hjk hy => ?_, ⟨rfl, rfl, rfl, trivial⟩, hw⟩
      rcases Nat.lt_succ_iff_lt_or_eq.1 hjk with hlt | rfl
      · exact hj j y hlt hy
      · rw [hx] at hy; cases hy
        exact of_decide_eq_false h2
  have hkn : ¬ k < n1 := by simpa using h
  rw [coreAt_none (fun y hy => by
    obtain ⟨j, hj2⟩ := List.getElem?_of_mem hy
    exact hj j y (by have := (List.getElem?_eq_some_iff.1 hj2).1; omega) hj2)]
  repeat (first | refine byW ?_ | (refine byV ?_; intro w hw))
  exact ⟨_, rfl, rfl, hw.drop⟩

theorem used_rng {H : HwT} {nodes sh first irq : Int} (g : Gen H nodes sh first irq) : ∀ n ∈ usedN H, 0 ≤ n ∧ n < 64 := fun n hn => by
  unfold usedN at hn
  have key : IsNodeG nodes sh n := by
    rcases List.mem_append.1 hn with hn | hn
    · rcases List.mem_append.1 hn with hn | hn
      · obtain ⟨x, hx, rfl⟩ := List.mem_map.1 hn
        obtain ⟨i, hi, he⟩ := mem_get hx
        exact (g.co i x he).2.2.1
      · obtain ⟨x, hx, rfl⟩ := List.mem_map.1 hn
        obtain ⟨i, hi, he⟩ := mem_get hx
        exact (g.me i x he).2.2.2.1
    · obtain ⟨x, hx, rfl⟩ := List.mem_map.1 hn
      obtain ⟨i, hi, he⟩ := mem_get hx
      exact (g.de i x he).2.1
  obtain ⟨j, -, -, rfl⟩ := key
  exact nodeG_in sh j
theorem links_rng {H : HwT} {nodes sh first irq : Int} (g : Gen H nodes sh first irq) : ∀ l ∈ H.Links, 0 ≤ l.A ∧ l.A < 64 ∧ 0 ≤ l.B ∧ l.B < 64 := fun l hl => by
  obtain ⟨i, hi, he⟩ := mem_get hl
  obtain ⟨-, P, hPl, -, -, hP, -⟩ := g.li
  obtain ⟨q, hq⟩ := get_lt (l := P) (k := i) (by omega)
  obtain ⟨h, -, -⟩ := hP i l q he hq
  have a1 := nodeG_in sh q.1
  have a2 := nodeG_in sh q.2
  rcases h with ⟨e1, e2⟩ | ⟨e1, e2⟩ <;> rw [e1, e2] <;> omega
theorem lonely_of {R : List Bool} {k : Nat} (hR : R.length = 64) (h : R[k]? = some false) : freeN R = (R.idxOf false : Nat) ∧ R.idxOf false < 64 ∧ R[R.idxOf false]? = some false := by
  have hm : false ∈ R := List.mem_of_getElem? h
  have hlt := List.idxOf_lt_length_iff.2 hm
  refine ⟨by unfold freeN; rw [if_pos (by omega)], by omega, ?_⟩
  rw [List.getElem?_eq_getElem hlt, List.getElem_idxOf hlt]
theorem mark_all : ∀ (xs : List Int) (R : List Bool), (∀ k : Nat, k < R.length → (markN R xs)[k]? = some true → R[k]? = some true ∨ ∃ x ∈ xs, x.toNat = k)
  | [], R, k, _, h => .inl h
  | x :: xs, R, k, hk, h => by
    rcases mark_all xs (R.set x.toNat true) k (by simpa using hk) h with h | ⟨y, hy, e⟩
    · rw [List.getElem?_set] at h
      by_cases e : x.toNat = k
      · exact .inr ⟨x, by simp, e⟩
      · rw [if_neg e] at h; exact .inl h
    · exact .inr ⟨y, List.mem_cons_of_mem _ hy, e⟩
theorem lonely_free {H : HwT} {nodes sh first irq : Int} (g : Gen H nodes sh first irq) : (0 ≤ lonelyN H ∧ lonelyN H < 64) ∧ lonelyN H ∉ usedN H ∧ ∀ l ∈ H.Links, lonelyN H ≠ l.A ∧ lonelyN H ≠ l.B := by
  have hU := used_rng g
  have hL := links_rng g
  obtain ⟨R, hR⟩ : ∃ R, R = markN (markN R64 (usedN H)) (LN H.Links) := ⟨_, rfl⟩
  have hRl : R.length = 64 := by rw [hR, markN_len, markN_len]; rfl
  have hall : ∀ x : Int, (x ∈ usedN H ∨ ∃ l ∈ H.Links, x = l.A ∨ x = l.B) → ∃ j : Nat, j < 6 ∧ x = nodeG sh j := fun x hx => by
    have hnd := g.nd
    have key : IsNodeG 6 sh x := by
      have up : ∀ n, IsNodeG nodes sh n → IsNodeG 6 sh n := fun n ⟨j, h0, h1, h2⟩ => ⟨j, h0, by omega, h2⟩
      rcases hx with hn | ⟨l, hl, he⟩
      · unfold usedN at hn
        rcases List.mem_append.1 hn with hn | hn
        · rcases List.mem_append.1 hn with hn | hn
          · obtain ⟨x, hx, rfl⟩ := List.mem_map.1 hn
            obtain ⟨i, hi, he⟩ := mem_get hx
            exact up _ (g.co i x he).2.2.1
          · obtain ⟨x, hx, rfl⟩ := List.mem_map.1 hn
            obtain ⟨i, hi, he⟩ := mem_get hx
            exact up _ (g.me i x he).2.2.2.1
        · obtain ⟨x, hx, rfl⟩ := List.mem_map.1 hn
          obtain ⟨i, hi, he⟩ := mem_get hx
          exact up _ (g.de i x he).2.1
      · obtain ⟨i, hi, he2⟩ := mem_get hl
        obtain ⟨-, P, hPl, -, hPr, hP, -⟩ := g.li
        obtain ⟨q, hq⟩ := get_lt (l := P) (k := i) (by omega)
        obtain ⟨h, -, -⟩ := hP i l q he2 hq
        have hr := hPr q (List.mem_of_getElem? hq)
        have b1 : IsNodeG 6 sh (nodeG sh q.1) := ⟨q.1, by omega, by omega, rfl⟩
        have b2 : IsNodeG 6 sh (nodeG sh q.2) := ⟨q.2, by omega, by omega, rfl⟩
        rcases h with ⟨e1, e2⟩ | ⟨e1, e2⟩ <;> rcases he with rfl | rfl
        · rw [e1]; exact b1
        · rw [e2]; exact b2
        · rw [e1]; exact b2
        · rw [e2]; exact b1
    obtain ⟨j, h0, h1, h2⟩ := key
    exact ⟨j.toNat, by omega, by rw [h2]; congr 1; omega⟩
  obtain ⟨k, hk, hkf⟩ : ∃ k : Nat, k < 64 ∧ ∀ j : Nat, j < 6 → (nodeG sh j).toNat ≠ k := by
    have hsr := g.sr
    refine ⟨((sh + 1) % 64).toNat, by omega, fun j hj => ?_⟩
    unfold nodeG
    omega
  have hf : R[k]? = some false := by
    obtain ⟨b, hb⟩ := get_lt (l := R) (k := k) (by omega)
    cases b with
    | false => exact hb
    | true =>
      exfalso
      rw [hR] at hb
      rcases mark_all _ _ k (by rw [markN_len]; simpa using hk) hb with hb | ⟨x, hx, e⟩
      · rcases mark_all _ _ k (by simpa using hk) hb with hb | ⟨x, hx, e⟩
        · rw [List.getElem?_replicate_of_lt hk] at hb; cases hb
        · obtain ⟨j, hj, he⟩ := hall x (.inl hx)
          exact hkf j hj (by rw [← he]; exact e)
      · unfold LN at hx
        obtain ⟨l, hl, hx⟩ := List.mem_flatMap.1 hx
        obtain ⟨j, hj, he⟩ := hall x (.inr ⟨l, hl, by simpa using hx⟩)
        exact hkf j hj (by rw [← he]; exact e)
  obtain ⟨e1, e2, e3⟩ := lonely_of hRl hf
  have e0 : lonelyN H = (R.idxOf false : Nat) := by unfold lonelyN; rw [← hR]; exact e1
  rw [hR] at e3
  obtain ⟨q1, q2⟩ := markN_get _ _ _ e3
  obtain ⟨-, q3⟩ := markN_get _ _ _ q1
  rw [← hR] at q2 q3
  rw [e0]
  refine ⟨by omega, fun hm => q3 _ hm (by omega), fun l hl => ⟨fun e => q2 l.A (by unfold LN; exact List.mem_flatMap.2 ⟨l, hl, by simp⟩) (by omega), fun e => q2 l.B (by unfold LN; exact List.mem_flatMap.2 ⟨l, hl, by simp⟩) (by omega)⟩⟩
theorem W_cutB {P : Program} {n id : Nat} {c : Code} {K : Fr → World → Prop} {Q : Exit → Fr → World → Prop} {ρ : Fr} {w : World} (I : Fr → World → Prop) (h1 : W P n c (InBl id (Then I Q)) ρ w) (h2 : ∀ ρ w, I ρ w → K ρ w) : W P n c (InBl id (Then K Q)) ρ w :=
  h1.mono fun e ρ w h => by
    cases e with
    | normal => exact h2 ρ w h
    | exit i =>
      simp only [InBl] at h ⊢
      split <;> rename_i hi <;> simp only [hi, if_true, if_false] at h
      · exact h2 ρ w h
      · exact h
    | _ => exact h
theorem set_core {l : List CoreT} {k : Nat} {x : CoreT} {r : List Value} (y : CoreT) (h : enc y = r) : (l.map enc).set k r = (l.set k y).map enc := by rw [← h, List.map_set]
instance pg_CoreAt {Γ : Gho} {u : Value} {H : HwT} {id : Int} [hh : HwR Γ u H] : PG Try.prog Γ 8 [u, .int .i64 id] (.int .i64 (coreAt H.Cores id)) := ⟨fun S w hw => by
  obtain ⟨a1, n1, c1, a2, n2, c2, a3, n3, c3, a4, n4, c4, a5, n5, c5, cs, rfl, -, -, -, r1, -⟩ := hh.h
  exact CoreAt_any r1.rdS rfl rfl rfl rfl rfl hw⟩
theorem freeze_all {Γ : Gho} {S : List Res} {w : World} {H : HwT} {b7 : Nat} {v1 v2 v3 v4 v5 : Value} {cs : List CacheH} (hcs : cs.map CacheH.T = H.Caches) (hok : ∀ c ∈ cs, COk Γ c) (hsz : HwSz H) (hw : Wd Γ (.blk b7 (.cells #[.string H.Name, v1, v2, v3, v4, v5] 30) :: (.own (v1) 35 4 (H.Cores.map enc)) :: (.own (v2) 40 5 (cs.map cC)) :: (.own (v3) 43 3 (H.Links.map enc)) :: (.own (v4) 38 5 (H.Mems.map enc)) :: (.own (v5) 46 5 (H.Devs.map enc)) :: S) w) :
    ∃ Γ' u, Γ.le Γ' ∧ u = .agg #[.string H.Name, v1, v2, v3, v4, v5] ∧ HwR Γ' u H ∧ Wd Γ' (.blk b7 (.cells u.cells 30) :: S) w := by
  have ho : HwOut Γ H (.blk b7 (.cells #[.string H.Name, v1, v2, v3, v4, v5] 30) :: S) (.agg #[.string H.Name, v1, v2, v3, v4, v5]) w := ⟨v1, v2, v3, v4, v5, cs, hcs, hok, rfl, hw.ps [5, 5, 5, 5, 5]⟩
  obtain ⟨Γ', h1, h2, h3⟩ := ho.freeze hsz
  exact ⟨Γ', _, h1, rfl, h2, h3⟩
theorem sz_mem {H : HwT} {x : MemT} (h : HwSz H) (hx : x.Name.size ≤ maxS) : HwSz { H with Mems := H.Mems ++ [x] } := ⟨h.1, h.2.1, fun c hc => by
  rcases List.mem_append.1 hc with hc | hc
  · exact h.2.2.1 c hc
  · cases List.mem_singleton.1 hc; exact hx, h.2.2.2⟩
theorem sz_dev {H : HwT} {x : DevT} (h : HwSz H) (hx : x.Name.size ≤ maxS) : HwSz { H with Devs := H.Devs ++ [x] } := ⟨h.1, h.2.1, h.2.2.1, fun c hc => by
  rcases List.mem_append.1 hc with hc | hc
  · exact h.2.2.2 c hc
  · cases List.mem_singleton.1 hc; exact hx⟩
theorem sz_cch {H : HwT} {ys : List CacheT} (h : HwSz H) (hx : ∀ y ∈ ys, y.Name.size ≤ maxS) : HwSz { H with Caches := H.Caches ++ ys } := ⟨h.1, fun c hc => by
  rcases List.mem_append.1 hc with hc | hc
  · exact h.2.1 c hc
  · exact hx c hc, h.2.2.1, h.2.2.2⟩
theorem DescSpoilt_any {Γ : Gho} {S : List Res} {w : World} {a : Option Addr} {m c : Nat} {L : List Int} {how which : Int} (hr : RepS Γ (.slice a m c) 1 (intRows L)) (hw : Wd Γ S w) :
    Calls Try.prog 3 #[.slice a m c, .int .i64 how, .int .i64 which] w fun e w' => ∃ Γ', Γ.le Γ' ∧ e = .returned (.bool true) ∧ Wd Γ' S w' := by
  refine calls_of_W Try.func3 rfl rfl ?_
  repeat (first | refine byW ?_ | (refine byV ?_; intro w hw))
  refine W_cond rfl (fun h => ?_) (fun h => ?_)
  · repeat (first | refine byW ?_ | (refine byV ?_; intro w hw))
    refine lCall ?_
    refine (awake_any hw).mono ?_
    rintro r w ⟨Γ1, hle, rfl, hw⟩
    refine ⟨_, rfl, ?_⟩
    repeat (first | refine byW ?_ | (refine byV ?_; intro w hw))
    exact ⟨_, rfl, Γ1, hle, rfl, hw⟩
  clear h
  repeat (first | refine byW ?_ | (refine byV ?_; intro w hw))
  refine lCall ?_
  refine (Hardware_any hr hw).mono ?_
  clear hw
  rintro r w ⟨Γ1, H, u, nodes, sh, first, irq, hle1, rfl, hG, ho⟩
  refine ⟨_, rfl, ?_⟩
  have hV : ValidP H := valid_iff.1 (gen_valid hG)
  have hSz := gen_sz hG
  obtain ⟨k1, k2, k3, k4, k5⟩ := valid_counts hV
  have hnc := hG.nc
  obtain ⟨v1, v2, v3, v4, v5, cs, hcs, hok, rfl, hw⟩ := ho
  have hcl : cs.length = H.Caches.length := by rw [← hcs]; simp
  clear hr
  repeat (first | refine byW ?_ | (refine byV ?_; intro w hw))
  refine lAlloc ?_
  intro b7 w hw
  obtain ⟨a1, n1, c1, rfl, hn1, hm1, hx1⟩ := hw.own_shape (i := 1) rfl
  obtain ⟨a2, n2, c2, rfl, hn2, hm2, hx2⟩ := hw.own_shape (i := 2) rfl
  obtain ⟨a3, n3, c3, rfl, hn3, hm3, hx3⟩ := hw.own_shape (i := 3) rfl
  obtain ⟨a4, n4, c4, rfl, hn4, hm4, hx4⟩ := hw.own_shape (i := 4) rfl
  obtain ⟨a5, n5, c5, rfl, hn5, hm5, hx5⟩ := hw.own_shape (i := 5) rfl
  simp only [List.length_map] at hn1 hn2 hn3 hn4 hn5
  refine lStore ?_
  intro w hw
  have hw : Wd Γ1 (.blk b7 (.cells #[.string H.Name, .slice a1 n1 c1, .slice a2 n2 c2, .slice a3 n3 c3, .slice a4 n4 c4, .slice a5 n5 c5] 30) :: (.own (.slice a1 n1 c1) 35 4 (H.Cores.map enc)) :: (.own (.slice a2 n2 c2) 40 5 (cs.map cC)) :: (.own (.slice a3 n3 c3) 43 3 (H.Links.map enc)) :: (.own (.slice a4 n4 c4) 38 5 (H.Mems.map enc)) :: (.own (.slice a5 n5 c5) 46 5 (H.Devs.map enc)) :: S) w := hw
  haveI : PosL (n1 : Int) := ⟨by omega⟩
  haveI : PosL 12 := ⟨by decide⟩
  repeat (first | refine byW ?_ | (refine byV ?_; intro w hw))
  obtain ⟨k, hk, hkn⟩ : ∃ k : Nat, which % (n1 : Int) = k ∧ k < n1 := ⟨(which % (n1 : Int)).toNat, by have := Int.emod_nonneg which (show (n1 : Int) ≠ 0 by omega); omega, by have := Int.emod_lt_of_pos which (show (0 : Int) < n1 by omega); have := Int.emod_nonneg which (show (n1 : Int) ≠ 0 by omega); omega⟩
  rw [hk]
  clear hk
  obtain ⟨x, hx⟩ := get_lt (l := H.Cores) (k := k) (by omega)
  have r1 : ∀ K : List Res, K[0]? = some (.own (.slice a1 n1 c1) 35 4 (H.Cores.map enc)) → RdS Γ1 K (.slice a1 n1 c1) 4 (H.Cores.map enc) := fun K h => RdS.ownI (i := 0) h (by simpa using hn1) hm1 hx1
  repeat (first | refine byW ?_ | (refine byV ?_; intro w hw))
  generalize how % 12 = p
  refine W_has (l := [(7, .pointer (some ⟨b7, 0, none⟩)), (8, .int .i64 k), (9, .int .i64 0), (23, .int .i64 p), (30, .bool (decide (p = 0)))]) ?_ fun ρ' hρ' => ?_
  · exact ⟨rfl, rfl, rfl, rfl, rfl, trivial⟩
  rw [hρ'.eq]
  clear hρ'
  refine W_cutB (fun ρ w => ∃ (Γ' : Gho) (H' : HwT) (want : Int) (u : Value), Γ1.le Γ' ∧ validS H' = want ∧ HwR Γ' u H' ∧ Has ρ [(7, .pointer (some ⟨b7, 0, none⟩)), (9, .int .i64 want)] ∧ Wd Γ' (.blk b7 (.cells u.cells 30) :: S) w) ?_ ?_
  · repeat (first | refine byW ?_ | (refine byV ?_; intro w hw))
    refine W_cond rfl (fun h => ?_) (fun h => ?_)
    · clear h
      repeat (first | refine byW ?_ | (refine byV ?_; intro w hw))
      refine lStoreEf (i := 1) (k := k) (f := 1) (row := enc x) ?_ (rows_map hx)
      intro w hw
      have hw : Wd Γ1 (.blk b7 (.cells #[.string H.Name, .slice a1 n1 c1, .slice a2 n2 c2, .slice a3 n3 c3, .slice a4 n4 c4, .slice a5 n5 c5] 30) :: (.own (.slice a1 n1 c1) 35 4 ((H.Cores.set k ({ x with Width := 64 } : CoreT)).map enc)) :: (.own (.slice a2 n2 c2) 40 5 (cs.map cC)) :: (.own (.slice a3 n3 c3) 43 3 (H.Links.map enc)) :: (.own (.slice a4 n4 c4) 38 5 (H.Mems.map enc)) :: (.own (.slice a5 n5 c5) 46 5 (H.Devs.map enc)) :: S) w := by
        rw [← set_core (k := k) (x := x) ({ x with Width := 64 } : CoreT) rfl]; exact hw
      obtain ⟨Γ2, u, hle2, hu, hR, hw⟩ := freeze_all (H := { H with Cores := H.Cores.set k { x with Width := 64 } }) (cs := cs) hcs hok (hSz) hw
      repeat (first | refine byW ?_ | (refine byV ?_; intro w hw))
      exact ⟨Γ2, _, _, u, hle2, spoil0 hG hx, hR, ⟨rfl, rfl, trivial⟩, hw⟩
    clear h
    repeat (first | refine byW ?_ | (refine byV ?_; intro w hw))
    refine W_cond rfl (fun h => ?_) (fun h => ?_)
    · clear h
      repeat (first | refine byW ?_ | (refine byV ?_; intro w hw))
      refine W_mix2 ([.own (.slice a2 n2 c2) 40 5 (cs.map cC), .own (.slice a3 n3 c3) 43 3 (H.Links.map enc), .own (.slice a4 n4 c4) 38 5 (H.Mems.map enc), .own (.slice a5 n5 c5) 46 5 (H.Devs.map enc)]) (.blk b7 (.cells #[.string H.Name, .slice a1 n1 c1, .slice a2 n2 c2, .slice a3 n3 c3, .slice a4 n4 c4, .slice a5 n5 c5] 30) :: .own (.slice a1 n1 c1) 35 4 (H.Cores.map enc) :: S) [[],[],[],[],[],[],[],[1],[0],[],[0]] [[],[0],[],[0],[],[0],[0],[1],[0,1],[],[0]] [[47], [46]] (hw.ps [1, 1, 5, 5, 5, 5]) ?_
      iterate 5 (refine mY ?_)
      refine mY (v := .pointer (some ⟨aB a1, aO a1 + k * 4, none⟩)) ?_ (hy := fun Y w g hw => y_idxO (j := 5) (i := (k : Int)) hw rfl rfl rfl (by omega) (by omega))
      refine mY (v := .agg (enc x).toArray) ?_ (hy := fun Y w g hw => y_loadE rfl (Wd.own_rd (i := 5) hw rfl) (rows_map hx))
      refine mBuild [enc (x : CoreT)] ?_
      refine mApp ?_
      repeat (first | refine mY ?_ | refine mP ?_ | refine mEndAt ?_ | refine mEnd0 ?_ | refine mEnd ?_)
      refine mStoreV ?_
      refine mEnd fun w g hw => ?_
      have hw := Wd.dropEnd hw
      have hw : Wd Γ1 (.blk b7 (.cells #[.string H.Name, g 47, .slice a2 n2 c2, .slice a3 n3 c3, .slice a4 n4 c4, .slice a5 n5 c5] 30) :: (.own (g 47) 35 4 ((H.Cores.map enc) ++ [enc (x : CoreT)])) :: (.own (.slice a2 n2 c2) 40 5 (cs.map cC)) :: (.own (.slice a3 n3 c3) 43 3 (H.Links.map enc)) :: (.own (.slice a4 n4 c4) 38 5 (H.Mems.map enc)) :: (.own (.slice a5 n5 c5) 46 5 (H.Devs.map enc)) :: S) w := hw.ps [3, 3, 3, 3, 5, 5]
      generalize g 47 = vv at hw
      have hw : Wd Γ1 (.blk b7 (.cells #[.string H.Name, vv, .slice a2 n2 c2, .slice a3 n3 c3, .slice a4 n4 c4, .slice a5 n5 c5] 30) :: (.own (vv) 35 4 ((H.Cores ++ [(x : CoreT)]).map enc)) :: (.own (.slice a2 n2 c2) 40 5 (cs.map cC)) :: (.own (.slice a3 n3 c3) 43 3 (H.Links.map enc)) :: (.own (.slice a4 n4 c4) 38 5 (H.Mems.map enc)) :: (.own (.slice a5 n5 c5) 46 5 (H.Devs.map enc)) :: S) w := by rw [List.map_append]; exact hw
      obtain ⟨Γ2, u, hle2, hu, hR, hw⟩ := freeze_all (H := { H with Cores := H.Cores ++ [x] }) (cs := cs) hcs hok (hSz) hw
      repeat (first | refine byW ?_ | (refine byV ?_; intro w hw))
      exact ⟨Γ2, _, _, u, hle2, spoil1 hG hx, hR, ⟨rfl, rfl, trivial⟩, hw⟩
    clear h
    repeat (first | refine byW ?_ | (refine byV ?_; intro w hw))
    refine W_cond rfl (fun h => ?_) (fun h => ?_)
    · clear h
      repeat (first | refine byW ?_ | (refine byV ?_; intro w hw))
      refine lStore ?_
      intro w hw
      have hw : Wd Γ1 (.blk b7 (.cells #[.string ⟨#[97, 34, 98]⟩, .slice a1 n1 c1, .slice a2 n2 c2, .slice a3 n3 c3, .slice a4 n4 c4, .slice a5 n5 c5] 30) :: (.own (.slice a1 n1 c1) 35 4 (H.Cores.map enc)) :: (.own (.slice a2 n2 c2) 40 5 (cs.map cC)) :: (.own (.slice a3 n3 c3) 43 3 (H.Links.map enc)) :: (.own (.slice a4 n4 c4) 38 5 (H.Mems.map enc)) :: (.own (.slice a5 n5 c5) 46 5 (H.Devs.map enc)) :: S) w := hw
      obtain ⟨Γ2, u, hle2, hu, hR, hw⟩ := freeze_all (H := { H with Name := ⟨#[97, 34, 98]⟩ }) (cs := cs) hcs hok (⟨show (⟨#[97, 34, 98]⟩ : ByteArray).size ≤ maxS by decide, hSz.2.1, hSz.2.2.1, hSz.2.2.2⟩) hw
      repeat (first | refine byW ?_ | (refine byV ?_; intro w hw))
      exact ⟨Γ2, _, _, u, hle2, spoil2, hR, ⟨rfl, rfl, trivial⟩, hw⟩
    clear h
    repeat (first | refine byW ?_ | (refine byV ?_; intro w hw))
    refine W_cond rfl (fun h => ?_) (fun h => ?_)
    · clear h
      repeat (first | refine byW ?_ | (refine byV ?_; intro w hw))
      refine lStore ?_
      intro w hw
      have hw := (hw.ps [1]).drop
      have hw : Wd Γ1 (.blk b7 (.cells #[.string H.Name, .slice none 0 0, .slice a2 n2 c2, .slice a3 n3 c3, .slice a4 n4 c4, .slice a5 n5 c5] 30) :: (.own (.slice none 0 0) 35 4 (([] : List CoreT).map enc)) :: (.own (.slice a2 n2 c2) 40 5 (cs.map cC)) :: (.own (.slice a3 n3 c3) 43 3 (H.Links.map enc)) :: (.own (.slice a4 n4 c4) 38 5 (H.Mems.map enc)) :: (.own (.slice a5 n5 c5) 46 5 (H.Devs.map enc)) :: S) w := (Wd.addNil hw).ps [1]
      obtain ⟨Γ2, u, hle2, hu, hR, hw⟩ := freeze_all (H := { H with Cores := [] }) (cs := cs) hcs hok (hSz) hw
      repeat (first | refine byW ?_ | (refine byV ?_; intro w hw))
      exact ⟨Γ2, _, _, u, hle2, valid_nocores hV, hR, ⟨rfl, rfl, trivial⟩, hw⟩
    clear h
    repeat (first | refine byW ?_ | (refine byV ?_; intro w hw))
    refine W_cond rfl (fun h => ?_) (fun h => ?_)
    · clear h
      repeat (first | refine byW ?_ | (refine byV ?_; intro w hw))
      refine lBuildSlice [enc (⟨⟨#[101, 120, 116, 114, 97]⟩, 4096, 12288, 0, 1⟩ : MemT)] ?_
      intro aN w hw
      refine lApp (i := 5) (rows2 := [enc (⟨⟨#[101, 120, 116, 114, 97]⟩, 4096, 12288, 0, 1⟩ : MemT)]) ?_ (Wd.own_rd (i := 0) hw rfl)
      intro vv w hw
      obtain ⟨qa, qn, qc, rfl, -, -, -⟩ := hw.own_shape (i := 5) (v := vv) rfl
      repeat (first | refine byW ?_ | (refine byV ?_; intro w hw))
      refine lStore ?_
      intro w hw
      have hw := hw.drop
      have hw : Wd Γ1 (.blk b7 (.cells #[.string H.Name, .slice a1 n1 c1, .slice a2 n2 c2, .slice a3 n3 c3, .slice qa qn qc, .slice a5 n5 c5] 30) :: (.own (.slice a1 n1 c1) 35 4 (H.Cores.map enc)) :: (.own (.slice a2 n2 c2) 40 5 (cs.map cC)) :: (.own (.slice a3 n3 c3) 43 3 (H.Links.map enc)) :: (.own (.slice qa qn qc) 38 5 ((H.Mems ++ [(⟨⟨#[101, 120, 116, 114, 97]⟩, 4096, 12288, 0, 1⟩ : MemT)]).map enc)) :: (.own (.slice a5 n5 c5) 46 5 (H.Devs.map enc)) :: S) w := by rw [List.map_append]; exact hw
      obtain ⟨Γ2, u, hle2, hu, hR, hw⟩ := freeze_all (H := { H with Mems := H.Mems ++ [⟨extraB, 4096, 12288, 0, 1⟩] }) (cs := cs) hcs hok (sz_mem hSz (by decide)) hw
      repeat (first | refine byW ?_ | (refine byV ?_; intro w hw))
      exact ⟨Γ2, _, _, u, hle2, spoil4 hG, hR, ⟨rfl, rfl, trivial⟩, hw⟩
    clear h
    repeat (first | refine byW ?_ | (refine byV ?_; intro w hw))
    refine W_cond rfl (fun h => ?_) (fun h => ?_)
    · clear h
      repeat (first | refine byW ?_ | (refine byV ?_; intro w hw))
      have qK : RdS Γ1 ([.own (.slice a1 n1 c1) 35 4 (H.Cores.map enc), .own (.slice a3 n3 c3) 43 3 (H.Links.map enc), .own (.slice a4 n4 c4) 38 5 (H.Mems.map enc), .own (.slice a5 n5 c5) 46 5 (H.Devs.map enc)]) (.slice a1 n1 c1) 4 (H.Cores.map enc) := r1 _ rfl
      refine W_mixD ([.own (.slice a1 n1 c1) 35 4 (H.Cores.map enc), .own (.slice a3 n3 c3) 43 3 (H.Links.map enc), .own (.slice a4 n4 c4) 38 5 (H.Mems.map enc), .own (.slice a5 n5 c5) 46 5 (H.Devs.map enc)]) [.blk b7 (.cells #[.string H.Name, .slice a1 n1 c1, .slice a2 n2 c2, .slice a3 n3 c3, .slice a4 n4 c4, .slice a5 n5 c5] 30)] (.own (.slice a2 n2 c2) 40 5 (cs.map cC) :: S) [] [74, 75, 76, 77] [] [[],[],[],[],[],[],[],[],[],[1],[1],[1],[1],[],[0,1]] [[],[0],[],[0],[],[],[],[],[],[1],[1],[1],[1],[],[0,1]] (by rw [List.append_nil]; exact hw.ps [2, 1, 5, 5, 5, 5]) ?_
      repeat (first | refine mY ?_ | refine mP ?_ | refine mPg ?_)
      refine mBuildX (T := Unit) (fun _ => [[.int .i64 (bitsZ .xor .i64 x.ID 16)]]) ?_ (fun t g h => rfl)
      refine mPureX (T := Unit × Addr) (fun t => .agg (cC (⟨⟨#[101, 120, 116, 114, 97]⟩, 1, 64, 4096, some t.2, 1, 1, [bitsZ .xor .i64 x.ID 16]⟩ : CacheH)).toArray) ?_ ?_
      · intro t g w Y h hw
        have h2 : g 74 = .slice (some t.2) 1 1 := h.2
        refine y_build ?_
        show fillL _ _ [(0, _), (1, _), (2, _), (3, _), (4, g 74)] = _
        rw [h2]; rfl
      refine mBuildX (T := Unit × Addr) (fun t => [cC (⟨⟨#[101, 120, 116, 114, 97]⟩, 1, 64, 4096, some t.2, 1, 1, [bitsZ .xor .i64 x.ID 16]⟩ : CacheH)]) ?_ ?_
      rotate_left
      · intro t g h
        have h2 : g 75 = _ := h.2
        show fillL _ _ [(0, g 75)] = _
        rw [h2]; rfl
      refine mAppX (T := (Unit × Addr) × Addr) (j := 2) (j2 := 0) (fun t => some t.2) (fun t => [cC (⟨⟨#[101, 120, 116, 114, 97]⟩, 1, 64, 4096, some t.1.2, 1, 1, [bitsZ .xor .i64 x.ID 16]⟩ : CacheH)]) ?_ ?_
      rotate_left
      · intro t g h; exact h.2
      repeat (first | refine mY ?_ | refine mP ?_ | refine mPg ?_)
      refine mJoinX (T := ((Unit × Addr) × Addr) × Value) (j := 2) (val := fun t => t.2) ?_ ?_
      rotate_left
      · intro t g h; exact h.2
      refine mEndD fun t w g h hw => ?_
      obtain ⟨⟨⟨⟨⟩, aC⟩, aD⟩, vv⟩ := t
      have hw : Wd Γ1 (.own (.slice (some aC) 1 1) 3 1 [[.int .i64 (bitsZ .xor .i64 x.ID 16)]] :: .own (.slice (some aD) 1 1) 40 5 [cC (⟨⟨#[101, 120, 116, 114, 97]⟩, 1, 64, 4096, some aC, 1, 1, [bitsZ .xor .i64 x.ID 16]⟩ : CacheH)] :: .blk b7 (.cells #[.string H.Name, .slice a1 n1 c1, vv, .slice a3 n3 c3, .slice a4 n4 c4, .slice a5 n5 c5] 30) :: (.own (.slice a1 n1 c1) 35 4 (H.Cores.map enc)) :: (.own (vv) 40 5 (cs.map cC ++ [cC (⟨⟨#[101, 120, 116, 114, 97]⟩, 1, 64, 4096, some aC, 1, 1, [bitsZ .xor .i64 x.ID 16]⟩ : CacheH)])) :: (.own (.slice a3 n3 c3) 43 3 (H.Links.map enc)) :: (.own (.slice a4 n4 c4) 38 5 (H.Mems.map enc)) :: (.own (.slice a5 n5 c5) 46 5 (H.Devs.map enc)) :: S) w := (hw.flip).ps [3, 3, 3, 7, 4, 5, 6, 7]
      obtain ⟨ΓA, hleA, rA, hw⟩ := Wd.freeze hw
      have hw : Wd ΓA (.blk b7 (.cells #[.string H.Name, .slice a1 n1 c1, vv, .slice a3 n3 c3, .slice a4 n4 c4, .slice a5 n5 c5] 30) :: (.own (.slice a1 n1 c1) 35 4 (H.Cores.map enc)) :: (.own (vv) 40 5 ((cs ++ [(⟨⟨#[101, 120, 116, 114, 97]⟩, 1, 64, 4096, some aC, 1, 1, [bitsZ .xor .i64 x.ID 16]⟩ : CacheH)]).map cC)) :: (.own (.slice a3 n3 c3) 43 3 (H.Links.map enc)) :: (.own (.slice a4 n4 c4) 38 5 (H.Mems.map enc)) :: (.own (.slice a5 n5 c5) 46 5 (H.Devs.map enc)) :: S) w := by rw [List.map_append]; exact hw.drop
      have hcs2 : (cs ++ [(⟨⟨#[101, 120, 116, 114, 97]⟩, 1, 64, 4096, some aC, 1, 1, [bitsZ .xor .i64 x.ID 16]⟩ : CacheH)]).map CacheH.T = H.Caches ++ [⟨extraB, 1, 64, 4096, [bitsZ .xor .i64 x.ID 16]⟩] := by rw [List.map_append, hcs]; rfl
      have hok2 : ∀ y ∈ cs ++ [(⟨⟨#[101, 120, 116, 114, 97]⟩, 1, 64, 4096, some aC, 1, 1, [bitsZ .xor .i64 x.ID 16]⟩ : CacheH)], COk ΓA y := fun y hy => by
        rcases List.mem_append.1 hy with hy | hy
        · exact (hok y hy).mono hleA
        · cases List.mem_singleton.1 hy; exact rA
      obtain ⟨qa, qn, qc, rfl, -, -, -⟩ := hw.own_shape (i := 2) (v := vv) rfl
      obtain ⟨Γ2, u, hle2, rfl, hR, hw⟩ := freeze_all (H := { H with Caches := H.Caches ++ [⟨extraB, 1, 64, 4096, [bitsZ .xor .i64 x.ID 16]⟩] }) hcs2 hok2 (sz_cch hSz (by intro y hy; cases List.mem_singleton.1 hy; show extraB.size ≤ maxS; decide)) hw
      have hw : Wd Γ2 (.blk b7 (.cells #[.string H.Name, .slice a1 n1 c1, .slice qa qn qc, .slice a3 n3 c3, .slice a4 n4 c4, .slice a5 n5 c5] 30) :: S) w := hw
      repeat (first | refine byW ?_ | (refine byV ?_; intro w hw))
      obtain ⟨za1, zn1, zc1, za2, zn2, zc2, za3, zn3, zc3, za4, zn4, zc4, za5, zn5, zc5, zcs, hz, -, -, -, zr1, -⟩ := hR.h
      cases hz
      haveI := hR
      refine W_quiet (by kernel_rfl) (by kernel_rfl) hw ?_
      repeat (first | refine Q_nil ?_ | (apply Q_plain; first | (apply Q_go; first | refine qP ?_ | refine qPg ?_) | refine qY ?_) | (apply Q_guarded; first | (apply Q_go; first | refine qPG ?_ | refine qPgG ?_) | refine qG ?_))
      intro w hw
      refine W_cond rfl (fun h => ?_) (fun h => ?_)
      · repeat (first | refine byW ?_ | (refine byV ?_; intro w hw))
        refine lCall ?_
        refine (awake_any hw).mono ?_
        clear hw
        rintro r w ⟨Γ3, hle3, rfl, hw⟩
        refine ⟨_, rfl, ?_⟩
        repeat (first | refine byW ?_ | (refine byV ?_; intro w hw))
        exact ⟨_, rfl, Γ3, hle1.trans (hleA.trans (hle2.trans hle3)), rfl, hw.drop⟩
      · have hno : (H.Cores.any fun y => decide (y.ID = bitsZ .xor .i64 x.ID 16)) = false := by rw [← coreAt_any]; exact h
        repeat (first | refine byW ?_ | (refine byV ?_; intro w hw))
        exact ⟨Γ2, _, _, _, hleA.trans hle2, spoil5 hG hno, hR, ⟨rfl, rfl, trivial⟩, hw⟩
    clear h
    repeat (first | refine byW ?_ | (refine byV ?_; intro w hw))
    refine W_cond rfl (fun h => ?_) (fun h => ?_)
    · clear h
      repeat (first | refine byW ?_ | (refine byV ?_; intro w hw))
      refine W_mix2 ([.own (.slice a1 n1 c1) 35 4 (H.Cores.map enc), .own (.slice a2 n2 c2) 40 5 (cs.map cC), .own (.slice a3 n3 c3) 43 3 (H.Links.map enc), .own (.slice a5 n5 c5) 46 5 (H.Devs.map enc)]) (.blk b7 (.cells #[.string H.Name, .slice a1 n1 c1, .slice a2 n2 c2, .slice a3 n3 c3, .slice a4 n4 c4, .slice a5 n5 c5] 30) :: .own (.slice a4 n4 c4) 38 5 (H.Mems.map enc) :: S) [[],[],[],[],[],[],[],[],[],[1],[0],[],[0]] [[],[0],[],[0],[],[],[],[],[],[1],[0,1],[],[0]] [[102], [101]] (hw.ps [4, 1, 5, 5, 5, 5]) ?_
      have qK : RdS Γ1 [.own (.slice a1 n1 c1) 35 4 (H.Cores.map enc), .own (.slice a2 n2 c2) 40 5 (cs.map cC), .own (.slice a3 n3 c3) 43 3 (H.Links.map enc), .own (.slice a5 n5 c5) 46 5 (H.Devs.map enc)] (.slice a1 n1 c1) 4 (H.Cores.map enc) := r1 _ rfl
      repeat (first | refine mY ?_ | refine mP ?_ | refine mEndAt ?_ | refine mEnd0 ?_ | refine mEnd ?_)
      refine mY (v := .agg (enc (⟨⟨#[101, 120, 116, 114, 97]⟩, 4294967296, 1048576, x.Node, 1⟩ : MemT)).toArray) ?_ (hy := fun Y w g hw => y_build rfl)
      refine mBuild [enc (⟨⟨#[101, 120, 116, 114, 97]⟩, 4294967296, 1048576, x.Node, 1⟩ : MemT)] ?_
      refine mApp ?_
      repeat (first | refine mY ?_ | refine mP ?_ | refine mEndAt ?_ | refine mEnd0 ?_ | refine mEnd ?_)
      refine mStoreV ?_
      refine mEnd fun w g hw => ?_
      have hw := Wd.dropEnd hw
      have hw : Wd Γ1 (.blk b7 (.cells #[.string H.Name, .slice a1 n1 c1, .slice a2 n2 c2, .slice a3 n3 c3, g 102, .slice a5 n5 c5] 30) :: (.own (.slice a1 n1 c1) 35 4 (H.Cores.map enc)) :: (.own (.slice a2 n2 c2) 40 5 (cs.map cC)) :: (.own (.slice a3 n3 c3) 43 3 (H.Links.map enc)) :: (.own (g 102) 38 5 ((H.Mems.map enc) ++ [enc (⟨⟨#[101, 120, 116, 114, 97]⟩, 4294967296, 1048576, x.Node, 1⟩ : MemT)])) :: (.own (.slice a5 n5 c5) 46 5 (H.Devs.map enc)) :: S) w := hw.ps [3, 5, 4, 4, 4, 5]
      generalize g 102 = vv at hw
      have hw : Wd Γ1 (.blk b7 (.cells #[.string H.Name, .slice a1 n1 c1, .slice a2 n2 c2, .slice a3 n3 c3, vv, .slice a5 n5 c5] 30) :: (.own (.slice a1 n1 c1) 35 4 (H.Cores.map enc)) :: (.own (.slice a2 n2 c2) 40 5 (cs.map cC)) :: (.own (.slice a3 n3 c3) 43 3 (H.Links.map enc)) :: (.own (vv) 38 5 ((H.Mems ++ [(⟨⟨#[101, 120, 116, 114, 97]⟩, 4294967296, 1048576, x.Node, 1⟩ : MemT)]).map enc)) :: (.own (.slice a5 n5 c5) 46 5 (H.Devs.map enc)) :: S) w := by rw [List.map_append]; exact hw
      obtain ⟨qa, qn, qc, rfl, -, -, -⟩ := hw.own_shape (i := 4) (v := vv) rfl
      obtain ⟨Γ2, u, hle2, rfl, hR, hw⟩ := freeze_all (H := { H with Mems := H.Mems ++ [⟨extraB, 4294967296, 1048576, x.Node, 1⟩] }) hcs hok (sz_mem hSz (show extraB.size ≤ maxS by decide)) hw
      have hw : Wd Γ2 (.blk b7 (.cells #[.string H.Name, .slice a1 n1 c1, .slice a2 n2 c2, .slice a3 n3 c3, .slice qa qn qc, .slice a5 n5 c5] 30) :: S) w := hw
      have hl := spoil6 hG hx
      repeat (first | refine byW ?_ | (refine byV ?_; intro w hw))
      refine W_cond rfl (fun h => ?_) (fun h => ?_)
      · have h0 : H.Devs.length = 0 := by have := of_decide_eq_true h; omega
        rw [if_pos h0] at hl
        repeat (first | refine byW ?_ | (refine byV ?_; intro w hw))
        exact ⟨Γ2, _, _, _, hle2, hl, hR, ⟨rfl, rfl, trivial⟩, hw⟩
      · have h0 : ¬ H.Devs.length = 0 := by have := of_decide_eq_false h; omega
        rw [if_neg h0] at hl
        repeat (first | refine byW ?_ | (refine byV ?_; intro w hw))
        exact ⟨Γ2, _, _, _, hle2, hl, hR, ⟨rfl, rfl, trivial⟩, hw⟩
    clear h
    repeat (first | refine byW ?_ | (refine byV ?_; intro w hw))
    refine W_cond rfl (fun h => ?_) (fun h => ?_)
    · clear h
      repeat (first | refine byW ?_ | (refine byV ?_; intro w hw))
      refine lBuildSlice [enc (⟨63, 63, 1⟩ : LinkT)] ?_
      intro aN w hw
      refine lApp (i := 4) (rows2 := [enc (⟨63, 63, 1⟩ : LinkT)]) ?_ (Wd.own_rd (i := 0) hw rfl)
      intro vv w hw
      obtain ⟨qa, qn, qc, rfl, -, -, -⟩ := hw.own_shape (i := 4) (v := vv) rfl
      repeat (first | refine byW ?_ | (refine byV ?_; intro w hw))
      refine lStore ?_
      intro w hw
      have hw := hw.drop
      have hw : Wd Γ1 (.blk b7 (.cells #[.string H.Name, .slice a1 n1 c1, .slice a2 n2 c2, .slice qa qn qc, .slice a4 n4 c4, .slice a5 n5 c5] 30) :: (.own (.slice a1 n1 c1) 35 4 (H.Cores.map enc)) :: (.own (.slice a2 n2 c2) 40 5 (cs.map cC)) :: (.own (.slice qa qn qc) 43 3 ((H.Links ++ [(⟨63, 63, 1⟩ : LinkT)]).map enc)) :: (.own (.slice a4 n4 c4) 38 5 (H.Mems.map enc)) :: (.own (.slice a5 n5 c5) 46 5 (H.Devs.map enc)) :: S) w := by rw [List.map_append]; exact hw
      obtain ⟨Γ2, u, hle2, hu, hR, hw⟩ := freeze_all (H := { H with Links := H.Links ++ [⟨63, 63, 1⟩] }) (cs := cs) hcs hok (hSz) hw
      repeat (first | refine byW ?_ | (refine byV ?_; intro w hw))
      exact ⟨Γ2, _, _, u, hle2, spoil7 hG, hR, ⟨rfl, rfl, trivial⟩, hw⟩
    clear h
    repeat (first | refine byW ?_ | (refine byV ?_; intro w hw))
    refine W_cond rfl (fun h => ?_) (fun h => ?_)
    · clear h
      repeat (first | refine byW ?_ | (refine byV ?_; intro w hw))
      refine W_cond rfl (fun h => ?_) (fun h => ?_)
      · have h0 : 0 < n3 := by have := of_decide_eq_true h; omega
        obtain ⟨y, hy⟩ := get_lt (l := H.Links) (k := 0) (by omega)
        repeat (first | refine byW ?_ | (refine byV ?_; intro w hw))
        refine lAlloc ?_
        intro b10 w hw
        refine lStore ?_
        intro w hw
        have hw : Wd Γ1 (.blk b10 (.cells (enc y).toArray 43) :: .blk b7 (.cells #[.string H.Name, .slice a1 n1 c1, .slice a2 n2 c2, .slice a3 n3 c3, .slice a4 n4 c4, .slice a5 n5 c5] 30) :: (.own (.slice a1 n1 c1) 35 4 (H.Cores.map enc)) :: (.own (.slice a2 n2 c2) 40 5 (cs.map cC)) :: (.own (.slice a3 n3 c3) 43 3 (H.Links.map enc)) :: (.own (.slice a4 n4 c4) 38 5 (H.Mems.map enc)) :: (.own (.slice a5 n5 c5) 46 5 (H.Devs.map enc)) :: S) w := hw
        repeat (first | refine byW ?_ | (refine byV ?_; intro w hw))
        refine lBuildSlice [enc (⟨y.B, y.A, 9⟩ : LinkT)] ?_
        intro aN w hw
        refine lApp (i := 5) (rows2 := [enc (⟨y.B, y.A, 9⟩ : LinkT)]) ?_ (Wd.own_rd (i := 0) hw rfl)
        intro vv w hw
        obtain ⟨qa, qn, qc, rfl, -, -, -⟩ := hw.own_shape (i := 5) (v := vv) rfl
        repeat (first | refine byW ?_ | (refine byV ?_; intro w hw))
        refine lStore ?_
        intro w hw
        have hw := hw.drop.drop
        have hw : Wd Γ1 (.blk b7 (.cells #[.string H.Name, .slice a1 n1 c1, .slice a2 n2 c2, .slice qa qn qc, .slice a4 n4 c4, .slice a5 n5 c5] 30) :: (.own (.slice a1 n1 c1) 35 4 (H.Cores.map enc)) :: (.own (.slice a2 n2 c2) 40 5 (cs.map cC)) :: (.own (.slice qa qn qc) 43 3 ((H.Links ++ [(⟨y.B, y.A, 9⟩ : LinkT)]).map enc)) :: (.own (.slice a4 n4 c4) 38 5 (H.Mems.map enc)) :: (.own (.slice a5 n5 c5) 46 5 (H.Devs.map enc)) :: S) w := by rw [List.map_append]; exact hw
        obtain ⟨Γ2, u, hle2, hu, hR, hw⟩ := freeze_all (H := { H with Links := H.Links ++ [⟨y.B, y.A, 9⟩] }) (cs := cs) hcs hok (hSz) hw
        repeat (first | refine byW ?_ | (refine byV ?_; intro w hw))
        exact ⟨Γ2, _, _, u, hle2, spoil8 hG hy, hR, ⟨rfl, rfl, trivial⟩, hw⟩
      · obtain ⟨Γ2, u, hle2, hu, hR, hw⟩ := freeze_all (H := H) (cs := cs) hcs hok hSz hw
        repeat (first | refine byW ?_ | (refine byV ?_; intro w hw))
        exact ⟨Γ2, _, _, u, hle2, gen_valid hG, hR, ⟨rfl, rfl, trivial⟩, hw⟩
    clear h
    repeat (first | refine byW ?_ | (refine byV ?_; intro w hw))
    refine W_cond rfl (fun h => ?_) (fun h => ?_)
    · clear h
      repeat (first | refine byW ?_ | (refine byV ?_; intro w hw))
      have qK : RdS Γ1 ([.own (.slice a1 n1 c1) 35 4 (H.Cores.map enc), .own (.slice a3 n3 c3) 43 3 (H.Links.map enc), .own (.slice a4 n4 c4) 38 5 (H.Mems.map enc), .own (.slice a5 n5 c5) 46 5 (H.Devs.map enc)]) (.slice a1 n1 c1) 4 (H.Cores.map enc) := r1 _ rfl
      refine W_mixD ([.own (.slice a1 n1 c1) 35 4 (H.Cores.map enc), .own (.slice a3 n3 c3) 43 3 (H.Links.map enc), .own (.slice a4 n4 c4) 38 5 (H.Mems.map enc), .own (.slice a5 n5 c5) 46 5 (H.Devs.map enc)]) [.blk b7 (.cells #[.string H.Name, .slice a1 n1 c1, .slice a2 n2 c2, .slice a3 n3 c3, .slice a4 n4 c4, .slice a5 n5 c5] 30)] (.own (.slice a2 n2 c2) 40 5 (cs.map cC) :: S) [] [146, 147, 156, 157] [154, 155] [[],[],[],[],[],[],[],[],[1],[1],[],[],[],[],[],[],[2],[2],[1,2],[1],[],[0,1]] [[],[0],[],[0],[],[],[],[],[1],[1],[],[0],[],[],[],[],[2],[2],[1,2],[1],[],[0,1]] (by rw [List.append_nil]; exact hw.ps [2, 1, 5, 5, 5, 5]) ?_
      repeat (first | refine mY ?_ | refine mP ?_ | refine mPg ?_)
      refine mBuildX (T := Unit) (fun _ => [[.int .i64 x.ID]]) ?_ (fun t g h => rfl)
      refine mPureX (T := Unit × Addr) (fun t => .agg (cC (⟨⟨#[108, 111, 119]⟩, 4, 64, 4096, some t.2, 1, 1, [x.ID]⟩ : CacheH)).toArray) ?_ ?_
      · intro t g w Y h hw
        have h2 : g 146 = .slice (some t.2) 1 1 := h.2
        refine y_build ?_
        show fillL _ _ [(0, _), (1, _), (2, _), (3, _), (4, g 146)] = _
        rw [h2]; rfl
      repeat (first | refine mY ?_ | refine mP ?_ | refine mPg ?_)
      refine mBuildX (T := Unit) (fun _ => [[.int .i64 x.ID]]) ?_ (fun t g h => rfl)
      refine mPureX (T := Unit × Addr) (fun t => .agg (cC (⟨⟨#[104, 105, 103, 104]⟩, 4, 64, 4096, some t.2, 1, 1, [x.ID]⟩ : CacheH)).toArray) ?_ ?_
      · intro t g w Y h hw
        have h2 : g 154 = .slice (some t.2) 1 1 := h.2
        refine y_build ?_
        show fillL _ _ [(0, _), (1, _), (2, _), (3, _), (4, g 154)] = _
        rw [h2]; rfl
      refine mBuild2X (T := Unit × Addr) (T2 := Unit × Addr) (c := 1) (c2 := 2) (fun t t2 => [cC (⟨⟨#[108, 111, 119]⟩, 4, 64, 4096, some t.2, 1, 1, [x.ID]⟩ : CacheH), cC (⟨⟨#[104, 105, 103, 104]⟩, 4, 64, 4096, some t2.2, 1, 1, [x.ID]⟩ : CacheH)]) ?_ ?_
      rotate_left
      · intro t t2 g h h2
        have e1 : g 147 = _ := h.2
        have e2 : g 155 = _ := h2.2
        show fillL _ _ [(0, g 147), (1, g 155)] = _
        rw [e1, e2]; rfl
      refine mAppX (T := ((Unit × Addr) × (Unit × Addr)) × Addr) (j := 3) (j2 := 0) (fun t => some t.2) (fun t => [cC (⟨⟨#[108, 111, 119]⟩, 4, 64, 4096, some t.1.1.2, 1, 1, [x.ID]⟩ : CacheH), cC (⟨⟨#[104, 105, 103, 104]⟩, 4, 64, 4096, some t.1.2.2, 1, 1, [x.ID]⟩ : CacheH)]) ?_ ?_
      rotate_left
      · intro t g h; exact h.2
      repeat (first | refine mY ?_ | refine mP ?_ | refine mPg ?_)
      refine mJoinX (T := (((Unit × Addr) × (Unit × Addr)) × Addr) × Value) (j := 3) (val := fun t => t.2) ?_ ?_
      rotate_left
      · intro t g h; exact h.2
      refine mEndD fun t w g h hw => ?_
      obtain ⟨⟨⟨⟨⟨⟩, aC⟩, ⟨⟨⟩, aE⟩⟩, aD⟩, vv⟩ := t
      have hw : Wd Γ1 (.own (.slice (some aC) 1 1) 3 1 [[.int .i64 x.ID]] :: .own (.slice (some aE) 1 1) 3 1 [[.int .i64 x.ID]] :: .own (.slice (some aD) 2 2) 40 5 [cC (⟨⟨#[108, 111, 119]⟩, 4, 64, 4096, some aC, 1, 1, [x.ID]⟩ : CacheH), cC (⟨⟨#[104, 105, 103, 104]⟩, 4, 64, 4096, some aE, 1, 1, [x.ID]⟩ : CacheH)] :: .blk b7 (.cells #[.string H.Name, .slice a1 n1 c1, vv, .slice a3 n3 c3, .slice a4 n4 c4, .slice a5 n5 c5] 30) :: (.own (.slice a1 n1 c1) 35 4 (H.Cores.map enc)) :: (.own (vv) 40 5 (cs.map cC ++ [cC (⟨⟨#[108, 111, 119]⟩, 4, 64, 4096, some aC, 1, 1, [x.ID]⟩ : CacheH), cC (⟨⟨#[104, 105, 103, 104]⟩, 4, 64, 4096, some aE, 1, 1, [x.ID]⟩ : CacheH)])) :: (.own (.slice a3 n3 c3) 43 3 (H.Links.map enc)) :: (.own (.slice a4 n4 c4) 38 5 (H.Mems.map enc)) :: (.own (.slice a5 n5 c5) 46 5 (H.Devs.map enc)) :: S) w := (hw.flip).ps [3, 3, 3, 8, 4, 5, 6, 7, 8]
      obtain ⟨ΓA, hleA, rA, hw⟩ := Wd.freeze hw
      obtain ⟨ΓB, hleB, rB, hw⟩ := Wd.freeze hw
      have rA := rA.mono hleB
      have hw : Wd ΓB (.blk b7 (.cells #[.string H.Name, .slice a1 n1 c1, vv, .slice a3 n3 c3, .slice a4 n4 c4, .slice a5 n5 c5] 30) :: (.own (.slice a1 n1 c1) 35 4 (H.Cores.map enc)) :: (.own (vv) 40 5 ((cs ++ [(⟨⟨#[108, 111, 119]⟩, 4, 64, 4096, some aC, 1, 1, [x.ID]⟩ : CacheH), (⟨⟨#[104, 105, 103, 104]⟩, 4, 64, 4096, some aE, 1, 1, [x.ID]⟩ : CacheH)]).map cC)) :: (.own (.slice a3 n3 c3) 43 3 (H.Links.map enc)) :: (.own (.slice a4 n4 c4) 38 5 (H.Mems.map enc)) :: (.own (.slice a5 n5 c5) 46 5 (H.Devs.map enc)) :: S) w := by rw [List.map_append]; exact hw.drop
      have hcs2 : (cs ++ [(⟨⟨#[108, 111, 119]⟩, 4, 64, 4096, some aC, 1, 1, [x.ID]⟩ : CacheH), (⟨⟨#[104, 105, 103, 104]⟩, 4, 64, 4096, some aE, 1, 1, [x.ID]⟩ : CacheH)]).map CacheH.T = H.Caches ++ [⟨lowB, 4, 64, 4096, [x.ID]⟩, ⟨highB, 4, 64, 4096, [x.ID]⟩] := by rw [List.map_append, hcs]; rfl
      have hok2 : ∀ y ∈ cs ++ [(⟨⟨#[108, 111, 119]⟩, 4, 64, 4096, some aC, 1, 1, [x.ID]⟩ : CacheH), (⟨⟨#[104, 105, 103, 104]⟩, 4, 64, 4096, some aE, 1, 1, [x.ID]⟩ : CacheH)], COk ΓB y := fun y hy => by
        rcases List.mem_append.1 hy with hy | hy
        · exact (hok y hy).mono (hleA.trans hleB)
        · rcases List.mem_cons.1 hy with rfl | hy
          · exact rA
          · cases List.mem_singleton.1 hy; exact rB
      obtain ⟨Γ2, u, hle2, hu, hR, hw⟩ := freeze_all (H := { H with Caches := H.Caches ++ [⟨lowB, 4, 64, 4096, [x.ID]⟩, ⟨highB, 4, 64, 4096, [x.ID]⟩] }) hcs2 hok2 (sz_cch hSz (by
        intro y hy
        rcases List.mem_cons.1 hy with rfl | hy
        · show lowB.size ≤ maxS; decide
        · cases List.mem_singleton.1 hy; show highB.size ≤ maxS; decide)) hw
      repeat (first | refine byW ?_ | (refine byV ?_; intro w hw))
      exact ⟨Γ2, _, _, u, hleA.trans (hleB.trans hle2), spoil9 hG hx, hR, ⟨rfl, rfl, trivial⟩, hw⟩
    clear h
    repeat (first | refine byW ?_ | (refine byV ?_; intro w hw))
    refine W_cond rfl (fun h => ?_) (fun h => ?_)
    · clear h
      have hN := used_rng hG
      have hL := links_rng hG
      repeat (first | refine byW ?_ | (refine byV ?_; intro w hw))
      refine W_mix2 ([.own (.slice a1 n1 c1) 35 4 (H.Cores.map enc), .own (.slice a2 n2 c2) 40 5 (cs.map cC), .own (.slice a3 n3 c3) 43 3 (H.Links.map enc), .own (.slice a5 n5 c5) 46 5 (H.Devs.map enc)]) (.blk b7 (.cells #[.string H.Name, .slice a1 n1 c1, .slice a2 n2 c2, .slice a3 n3 c3, .slice a4 n4 c4, .slice a5 n5 c5] 30) :: .own (.slice a4 n4 c4) 38 5 (H.Mems.map enc) :: S) [[],[],[],[],[],[1],[0],[],[0]] [[],[0],[0],[0],[],[1],[0,1],[],[0]] [[167], [166]] (hw.ps [4, 1, 5, 5, 5, 5]) ?_
      iterate 2 (refine mY ?_)
      refine mY (v := .agg #[.string H.Name, .slice a1 n1 c1, .slice a2 n2 c2, .slice a3 n3 c3, .slice a4 n4 c4, .slice a5 n5 c5]) ?_ (hy := fun Y w g hw => y_lwb (i := 4) hw rfl rfl rfl)
      refine mC (v := .int .i64 (lonelyN H)) (fun Y w g hw => ?_) rfl rfl rfl ?_
      · refine s_call (vs := #[.agg #[.string H.Name, .slice a1 n1 c1, .slice a2 n2 c2, .slice a3 n3 c3, .slice a4 n4 c4, .slice a5 n5 c5]]) (EvL.eqA (EvL.cons rfl EvL.nil)) ?_
        refine (lonely_any (H := H) (s := H.Name) (RdS.ownI (i := 0) rfl (by simpa using hn1) hm1 hx1) (RdS.ownI (i := 2) rfl (by simpa using hn3) hm3 hx3) (RdS.ownI (i := 5) rfl (by simpa using hn4) hm4 hx4) (RdS.ownI (i := 3) rfl (by simpa using hn5) hm5 hx5) hN hL hw).mono ?_
        rintro e w ⟨rfl, hw⟩
        exact ⟨_, rfl, rfl, hw⟩
      repeat (first | refine mY ?_ | refine mP ?_ | refine mEndAt ?_ | refine mEnd0 ?_ | refine mEnd ?_)
      refine mY (v := .agg (enc (⟨⟨#[102, 97, 114]⟩, 549755813888, 4096, lonelyN H, 1⟩ : MemT)).toArray) ?_ (hy := fun Y w g hw => y_build rfl)
      refine mBuild [enc (⟨⟨#[102, 97, 114]⟩, 549755813888, 4096, lonelyN H, 1⟩ : MemT)] ?_
      refine mApp ?_
      repeat (first | refine mY ?_ | refine mP ?_ | refine mEndAt ?_ | refine mEnd0 ?_ | refine mEnd ?_)
      refine mStoreV ?_
      refine mEnd fun w g hw => ?_
      have hw := Wd.dropEnd hw
      have hw : Wd Γ1 (.blk b7 (.cells #[.string H.Name, .slice a1 n1 c1, .slice a2 n2 c2, .slice a3 n3 c3, g 167, .slice a5 n5 c5] 30) :: (.own (.slice a1 n1 c1) 35 4 (H.Cores.map enc)) :: (.own (.slice a2 n2 c2) 40 5 (cs.map cC)) :: (.own (.slice a3 n3 c3) 43 3 (H.Links.map enc)) :: (.own (g 167) 38 5 ((H.Mems.map enc) ++ [enc (⟨⟨#[102, 97, 114]⟩, 549755813888, 4096, lonelyN H, 1⟩ : MemT)])) :: (.own (.slice a5 n5 c5) 46 5 (H.Devs.map enc)) :: S) w := hw.ps [3, 5, 4, 4, 4, 5]
      generalize g 167 = vv at hw
      have hw : Wd Γ1 (.blk b7 (.cells #[.string H.Name, .slice a1 n1 c1, .slice a2 n2 c2, .slice a3 n3 c3, vv, .slice a5 n5 c5] 30) :: (.own (.slice a1 n1 c1) 35 4 (H.Cores.map enc)) :: (.own (.slice a2 n2 c2) 40 5 (cs.map cC)) :: (.own (.slice a3 n3 c3) 43 3 (H.Links.map enc)) :: (.own (vv) 38 5 ((H.Mems ++ [(⟨⟨#[102, 97, 114]⟩, 549755813888, 4096, lonelyN H, 1⟩ : MemT)]).map enc)) :: (.own (.slice a5 n5 c5) 46 5 (H.Devs.map enc)) :: S) w := by rw [List.map_append]; exact hw
      obtain ⟨Γ2, u, hle2, hu, hR, hw⟩ := freeze_all (H := { H with Mems := H.Mems ++ [⟨farB, 549755813888, 4096, lonelyN H, 1⟩] }) (cs := cs) hcs hok (sz_mem hSz (show farB.size ≤ maxS by decide)) hw
      repeat (first | refine byW ?_ | (refine byV ?_; intro w hw))
      exact ⟨Γ2, _, _, u, hle2, spoil10 hG (lonely_free hG).1 (lonely_free hG).2.1 (lonely_free hG).2.2, hR, ⟨rfl, rfl, trivial⟩, hw⟩
    clear h
    repeat (first | refine byW ?_ | (refine byV ?_; intro w hw))
    refine lBuildSlice [enc (⟨⟨#[104, 105, 103, 104]⟩, 0, 256, 549755813888, 4096⟩ : DevT)] ?_
    intro aN w hw
    refine lApp (i := 6) (rows2 := [enc (⟨⟨#[104, 105, 103, 104]⟩, 0, 256, 549755813888, 4096⟩ : DevT)]) ?_ (Wd.own_rd (i := 0) hw rfl)
    intro vv w hw
    obtain ⟨qa, qn, qc, rfl, -, -, -⟩ := hw.own_shape (i := 6) (v := vv) rfl
    repeat (first | refine byW ?_ | (refine byV ?_; intro w hw))
    refine lStore ?_
    intro w hw
    have hw := hw.drop
    have hw : Wd Γ1 (.blk b7 (.cells #[.string H.Name, .slice a1 n1 c1, .slice a2 n2 c2, .slice a3 n3 c3, .slice a4 n4 c4, .slice qa qn qc] 30) :: (.own (.slice a1 n1 c1) 35 4 (H.Cores.map enc)) :: (.own (.slice a2 n2 c2) 40 5 (cs.map cC)) :: (.own (.slice a3 n3 c3) 43 3 (H.Links.map enc)) :: (.own (.slice a4 n4 c4) 38 5 (H.Mems.map enc)) :: (.own (.slice qa qn qc) 46 5 ((H.Devs ++ [(⟨⟨#[104, 105, 103, 104]⟩, 0, 256, 549755813888, 4096⟩ : DevT)]).map enc)) :: S) w := by rw [List.map_append]; exact hw
    obtain ⟨Γ2, u, hle2, hu, hR, hw⟩ := freeze_all (H := { H with Devs := H.Devs ++ [⟨highB, 0, 256, 549755813888, 4096⟩] }) (cs := cs) hcs hok (sz_dev hSz (show highB.size ≤ maxS by decide)) hw
    repeat (first | refine byW ?_ | (refine byV ?_; intro w hw))
    exact ⟨Γ2, _, _, u, hle2, spoilD hG, hR, ⟨rfl, rfl, trivial⟩, hw⟩
  clear hw
  rintro ρ w ⟨Γ2, H', want, u, hle2, hval, hR, hρ, hw⟩
  rw [hρ.eq]
  clear hρ
  have hR' := hR.h
  obtain ⟨Da1, Dn1, Dc1, Da2, Dn2, Dc2, Da3, Dn3, Dc3, Da4, Dn4, Dc4, Da5, Dn5, Dc5, Dcs, hu, -⟩ := hR'
  subst hu
  have hw : Wd Γ2 (.blk b7 (.cells #[.string H'.Name, .slice Da1 Dn1 Dc1, .slice Da2 Dn2 Dc2, .slice Da3 Dn3 Dc3, .slice Da4 Dn4 Dc4, .slice Da5 Dn5 Dc5] 30) :: S) w := hw
  haveI := hR
  have hcond : decide (validS H' = want) = true := decide_eq_true hval
  repeat (first | refine byW ?_ | (refine byV ?_; intro w hw))
  refine lGT ?_ (hct := hcond)
  refine lCall ?_
  refine (awake_any hw).mono ?_
  clear hw
  rintro r w ⟨Γ3, hle3, rfl, hw⟩
  refine ⟨_, rfl, ?_⟩
  refine lY (v := .bool true) ?_ (hy := y_pickT (congrArg Value.bool hcond) rfl)
  repeat (first | refine byW ?_ | (refine byV ?_; intro w hw))
  exact ⟨_, rfl, Γ3, hle1.trans (hle2.trans hle3), rfl, hw.drop⟩
end Go.Proofs.Ytnkekcippfdbgaa
