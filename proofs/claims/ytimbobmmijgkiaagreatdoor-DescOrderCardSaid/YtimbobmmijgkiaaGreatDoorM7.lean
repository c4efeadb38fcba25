/- Texts of this proof, one behind another. -/
import Derived.Test.YtimbobmmijgkiaaGreatDoorM4
import Derived.Test.YtimbobmmijgkiaaGreatDoorM5
import Derived.Test.YtimbobmmijgkiaaGreatDoorM3
import Derived.Room.Shelf.Join48
set_option linter.unusedVariables false
set_option linter.unusedSimpArgs false
/- The text of a printable description falls into its tokens (no program in sight). -/
section
open Go Mk
namespace Go.Proofs.YtimbobmmijgkiaaGreatDoor
set_option maxHeartbeats 4000000
attribute [local irreducible] Calls

/-- What stands in an item's head. -/
inductive HArg where
  | w (s : ByteArray)
  | n (u : Nat)
def max64 : Nat := 18446744073709551615
def HArg.txt : HArg → List UInt8 | .w s => bts s | .n u => Lib.decDigits u
def HArg.tok : HArg → Tri | .w s => (1, s, 0) | .n u => (2, ⟨#[]⟩, (u : Nat))
def HArg.ok : HArg → Prop | .w s => wordS s = true | .n u => u ≤ max64
def decsR (l : List Nat) : List UInt8 := l.flatMap fun u => 44 :: 32 :: Lib.decDigits u
def decs : List Nat → List UInt8
  | [] => []
  | u :: l => Lib.decDigits u ++ decsR l
abbrev numT (u : Nat) : Tri := (2, ⟨#[]⟩, (u : Nat))
def decR (l : List Nat) : List Tri := l.flatMap fun u => [(4, mkB [44], 0), numT u]
def decT : List Nat → List Tri
  | [] => []
  | u :: l => numT u :: decR l
abbrev Attr := ByteArray × List Nat
def attrL (a : Attr) : List UInt8 := 32 :: (bts a.1 ++ 32 :: (decs a.2 ++ [59]))
def attrT (a : Attr) : List Tri := (1, a.1, 0) :: (decT a.2 ++ [(4, mkB [59], 0)])
def AttrOk (a : Attr) : Prop := wordS a.1 = true ∧ a.2 ≠ [] ∧ ∀ u ∈ a.2, u ≤ max64
structure Item where
  word : ByteArray
  args : List HArg
  attrs : List Attr
def Item.txt (i : Item) : List UInt8 := 9 :: (bts i.word ++ ((i.args.flatMap fun a => 32 :: a.txt) ++ (32 :: 123 :: (i.attrs.flatMap attrL ++ [32, 125, 10]))))
def Item.tok (i : Item) : List Tri := (1, i.word, 0) :: (i.args.map HArg.tok ++ ((4, mkB [123], 0) :: (i.attrs.flatMap attrT ++ [(4, mkB [125], 0)])))
def Item.ok (i : Item) : Prop := wordS i.word = true ∧ (∀ a ∈ i.args, a.ok) ∧ ∀ a ∈ i.attrs, AttrOk a
theorem tkz_pn {c : UInt8} {l : List UInt8} (hc : c = 123 ∨ c = 125 ∨ c = 59) : tokS (mkB ([c] ++ l)) = ⟨4, mkB [c], 0, 1, 0⟩ := by
  have hs : (mkB ([c] ++ l)).size = l.length + 1 := by rw [mkB_size]; simp
  have hb : byteAt (mkB ([c] ++ l)) 0 = c.toNat := rfl
  have h2 : ∀ b, two2 c.toNat b = false := fun b => by rcases hc with q | q | q <;> subst q <;> unfold two2 <;> simp
  have hP : punctN (mkB ([c] ++ l)) = 1 := by
    unfold punctN
    rw [hb, h2, if_neg (by simp), if_pos ⟨by omega, by show c ∈ oneB; rcases hc with q | q | q <;> subst q <;> decide⟩]
  unfold tokS
  rw [hP, hb, if_neg (by rcases hc with q | q | q <;> subst q <;> decide), if_neg (by rcases hc with q | q | q <;> subst q <;> decide), if_neg (by rcases hc with q | q | q <;> subst q <;> decide), if_neg (by decide)]
  rw [show bSub (mkB ([c] ++ l)) 0 1 = mkB [c] from sub_pre (p := [c])]
theorem Tz.pn {c : UInt8} {l : List UInt8} {ks : List Tri} (hc : c = 123 ∨ c = 125 ∨ c = 59) (h : Tz l ks) : Tz (c :: l) ((4, mkB [c], 0) :: ks) :=
  Tz.tok (c := c) (p := []) (v := 0) (by rcases hc with q | q | q <;> subst q <;> decide) (by rcases hc with q | q | q <;> subst q <;> decide) (tkz_pn hc) h
theorem noW_32 {l : List UInt8} : noW (32 :: l) := show wordC 32 = false by decide
theorem noW_44 {l : List UInt8} : noW (44 :: l) := show wordC 44 = false by decide
theorem noW_59 {l : List UInt8} : noW (59 :: l) := show wordC 59 = false by decide
theorem Tz.decsR {l : List UInt8} {ks : List Tri} (hl : noW l) (h : Tz l ks) : ∀ us : List Nat, (∀ u ∈ us, u ≤ max64) → Tz (Go.Proofs.YtimbobmmijgkiaaGreatDoor.decsR us ++ l) (decR us ++ ks) ∧ noW (Go.Proofs.YtimbobmmijgkiaaGreatDoor.decsR us ++ l)
  | [], _ => ⟨h, hl⟩
  | u :: us, hu => by
    obtain ⟨ih, ihn⟩ := Tz.decsR hl h us fun x hx => hu x (List.mem_cons_of_mem _ hx)
    have hE : Go.Proofs.YtimbobmmijgkiaaGreatDoor.decsR (u :: us) ++ l = 44 :: 32 :: (Lib.decDigits u ++ (Go.Proofs.YtimbobmmijgkiaaGreatDoor.decsR us ++ l)) := by unfold Go.Proofs.YtimbobmmijgkiaaGreatDoor.decsR; simp
    rw [hE]
    exact ⟨Tz.p1 (.inr (.inr rfl)) (Tz.sp (by decide) (Tz.num (hu u (by simp)) ihn ih)), noW_44⟩
theorem Tz.decs {l : List UInt8} {ks : List Tri} (hl : noW l) (h : Tz l ks) {us : List Nat} (h0 : us ≠ []) (hu : ∀ u ∈ us, u ≤ max64) : Tz (Go.Proofs.YtimbobmmijgkiaaGreatDoor.decs us ++ l) (decT us ++ ks) := by
  cases us with
  | nil => exact absurd rfl h0
  | cons u us =>
    obtain ⟨ih, ihn⟩ := Tz.decsR hl h us fun x hx => hu x (List.mem_cons_of_mem _ hx)
    have hE : Go.Proofs.YtimbobmmijgkiaaGreatDoor.decs (u :: us) ++ l = Lib.decDigits u ++ (Go.Proofs.YtimbobmmijgkiaaGreatDoor.decsR us ++ l) := by show (_ ++ _) ++ _ = _; rw [List.append_assoc]
    rw [hE]
    exact Tz.num (hu u (by simp)) ihn ih
theorem Tz.attr {a : Attr} (ha : AttrOk a) {l : List UInt8} {ks : List Tri} (h : Tz l ks) : Tz (attrL a ++ l) (attrT a ++ ks) := by
  obtain ⟨h1, h2, h3⟩ := ha
  have hE : attrL a ++ l = 32 :: (bts a.1 ++ 32 :: (Go.Proofs.YtimbobmmijgkiaaGreatDoor.decs a.2 ++ 59 :: l)) := by unfold attrL; simp
  have hT : attrT a ++ ks = (1, a.1, 0) :: (decT a.2 ++ (4, mkB [59], 0) :: ks) := by unfold attrT; simp
  rw [hE, hT]
  exact Tz.sp (by decide) (Tz.word h1 noW_32 (Tz.sp (by decide) (Tz.decs noW_59 (Tz.pn (.inr (.inr rfl)) h) h2 h3)))
theorem Tz.attrs {l : List UInt8} {ks : List Tri} (h : Tz l ks) : ∀ xs : List Attr, (∀ a ∈ xs, AttrOk a) → Tz (xs.flatMap attrL ++ l) (xs.flatMap attrT ++ ks)
  | [], _ => h
  | a :: xs, ha => by
    rw [List.flatMap_cons, List.flatMap_cons, List.append_assoc, List.append_assoc]
    exact Tz.attr (ha a (by simp)) (Tz.attrs h xs fun x hx => ha x (List.mem_cons_of_mem _ hx))
theorem Tz.harg {a : HArg} (ha : a.ok) {l : List UInt8} {ks : List Tri} (hl : noW l) (h : Tz l ks) : Tz (a.txt ++ l) (a.tok :: ks) := by
  cases a with
  | w s => exact Tz.word ha hl h
  | n u => exact Tz.num ha hl h
theorem Tz.hargs {l : List UInt8} {ks : List Tri} (hl : noW l) (h : Tz l ks) : ∀ xs : List HArg, (∀ a ∈ xs, a.ok) → Tz ((xs.flatMap fun a => 32 :: a.txt) ++ l) (xs.map HArg.tok ++ ks) ∧ noW ((xs.flatMap fun a => 32 :: a.txt) ++ l)
  | [], _ => ⟨h, hl⟩
  | a :: xs, ha => by
    obtain ⟨ih, ihn⟩ := Tz.hargs hl h xs fun x hx => ha x (List.mem_cons_of_mem _ hx)
    rw [List.flatMap_cons, List.append_assoc]
    exact ⟨Tz.sp (by decide) (Tz.harg (ha a (by simp)) ihn ih), noW_32⟩
theorem Tz.item {i : Item} (hi : i.ok) {l : List UInt8} {ks : List Tri} (h : Tz l ks) : Tz (i.txt ++ l) (i.tok ++ ks) := by
  obtain ⟨h1, h2, h3⟩ := hi
  have hE : i.txt ++ l = 9 :: (bts i.word ++ ((i.args.flatMap fun a => 32 :: a.txt) ++ (32 :: 123 :: (i.attrs.flatMap attrL ++ (32 :: 125 :: 10 :: l))))) := by unfold Item.txt; simp
  have hT : i.tok ++ ks = (1, i.word, 0) :: (i.args.map HArg.tok ++ ((4, mkB [123], 0) :: (i.attrs.flatMap attrT ++ ((4, mkB [125], 0) :: ks)))) := by unfold Item.tok; simp
  rw [hE, hT]
  have h4 := Tz.attrs (Tz.sp (c := 32) (by decide) (Tz.pn (c := 125) (.inr (.inl rfl)) (Tz.sp (c := 10) (by decide) h))) i.attrs h3
  obtain ⟨h5, h6⟩ := Tz.hargs noW_32 (Tz.sp (c := 32) (by decide) (Tz.pn (c := 123) (.inl rfl) h4)) i.args h2
  exact Tz.sp (by decide) (Tz.word h1 h6 h5)
theorem Tz.items {l : List UInt8} {ks : List Tri} (h : Tz l ks) : ∀ is : List Item, (∀ i ∈ is, i.ok) → Tz (is.flatMap Item.txt ++ l) (is.flatMap Item.tok ++ ks)
  | [], _ => h
  | i :: is, hi => by
    rw [List.flatMap_cons, List.flatMap_cons, List.append_assoc, List.append_assoc]
    exact Tz.item (hi i (by simp)) (Tz.items h is fun x hx => hi x (List.mem_cons_of_mem _ hx))

/-! ### the items of a description -/
inductive Ent where
  | core (c : CoreT)
  | cache (c : CacheT)
  | link (c : LinkT)
  | mem (c : MemT)
  | dev (c : DevT)
def Ent.item : Ent → Item
  | .core c => ⟨coreB, [.n c.ID.toNat], [(widthB, [c.Width.toNat]), (nodeB, [c.Node.toNat]), (speedB, [c.Speed.toNat])]⟩
  | .cache c => ⟨cacheB, [.w c.Name], [(levelB, [c.Level.toNat]), (lineB, [c.Line.toNat]), (sizeB, [c.Size.toNat]), (coresB, c.Cores.map Int.toNat)]⟩
  | .link c => ⟨linkB, [.n c.A.toNat, .n c.B.toNat], [(latencyB, [c.Latency.toNat])]⟩
  | .mem c => ⟨memoryB, [.w c.Name], [(baseB, [c.Base.toNat]), (sizeB, [c.Size.toNat]), (nodeB, [c.Node.toNat]), (latencyB, [c.Latency.toNat])]⟩
  | .dev c => ⟨deviceB, [.w c.Name], [(nodeB, [c.Node.toNat]), (irqB, [c.IRQ.toNat]), (baseB, [c.Base.toNat]), (sizeB, [c.Size.toNat])]⟩
def smallI (n : Int) : Prop := 0 ≤ n ∧ n ≤ 2147483647
def wideI (n : Int) : Prop := 0 ≤ n ∧ n ≤ 18446744073709551615
def Ent.ok : Ent → Prop
  | .core c => smallI c.ID ∧ smallI c.Width ∧ smallI c.Node ∧ smallI c.Speed
  | .cache c => nameS c.Name = true ∧ smallI c.Level ∧ smallI c.Line ∧ wideI c.Size ∧ c.Cores ≠ [] ∧ ∀ v ∈ c.Cores, smallI v
  | .link c => smallI c.A ∧ smallI c.B ∧ smallI c.Latency
  | .mem c => nameS c.Name = true ∧ wideI c.Base ∧ wideI c.Size ∧ smallI c.Node ∧ smallI c.Latency
  | .dev c => nameS c.Name = true ∧ smallI c.Node ∧ smallI c.IRQ ∧ wideI c.Base ∧ wideI c.Size
def Ent.add (H : HwT) : Ent → HwT
  | .core c => { H with Cores := H.Cores ++ [c] }
  | .cache c => { H with Caches := H.Caches ++ [c] }
  | .link c => { H with Links := H.Links ++ [c] }
  | .mem c => { H with Mems := H.Mems ++ [c] }
  | .dev c => { H with Devs := H.Devs ++ [c] }
def entsOf (H : HwT) : List Ent := H.Cores.map .core ++ (H.Caches.map .cache ++ (H.Links.map .link ++ (H.Mems.map .mem ++ H.Devs.map .dev)))
theorem name_word {s : ByteArray} (h : nameS s = true) : wordS s = true ∧ s.size ≤ 24 := by
  unfold nameS at h
  rw [Bool.and_eq_true, decide_eq_true_eq] at h
  exact h
theorem small64 {n : Int} (h : smallI n) : n.toNat ≤ max64 := by unfold smallI at h; unfold max64; omega
theorem wide64 {n : Int} (h : wideI n) : n.toNat ≤ max64 := by unfold wideI at h; unfold max64; omega
theorem attr1 {w : ByteArray} {u : Nat} (hw : wordS w = true) (hu : u ≤ max64) : AttrOk (w, [u]) := ⟨hw, by simp, fun x hx => by rw [List.mem_singleton.1 hx]; exact hu⟩
theorem Ent.itemOk {x : Ent} (h : x.ok) : x.item.ok := by
  have w1 : wordS coreB = true := by decide
  have w2 : wordS cacheB = true := by decide
  have w3 : wordS linkB = true := by decide
  have w4 : wordS memoryB = true := by decide
  have w5 : wordS deviceB = true := by decide
  have a1 : wordS widthB = true := by decide
  have a2 : wordS nodeB = true := by decide
  have a3 : wordS speedB = true := by decide
  have a4 : wordS levelB = true := by decide
  have a5 : wordS lineB = true := by decide
  have a6 : wordS sizeB = true := by decide
  have a7 : wordS coresB = true := by decide
  have a8 : wordS latencyB = true := by decide
  have a9 : wordS baseB = true := by decide
  have a10 : wordS irqB = true := by decide
  cases x with
  | core c =>
    obtain ⟨h1, h2, h3, h4⟩ := h
    refine ⟨w1, fun a ha => ?_, fun a ha => ?_⟩
    · rw [List.mem_singleton.1 ha]; exact small64 h1
    · rcases List.mem_cons.1 ha with e | ha
      · rw [e]; exact attr1 a1 (small64 h2)
      rcases List.mem_cons.1 ha with e | ha
      · rw [e]; exact attr1 a2 (small64 h3)
      rw [List.mem_singleton.1 ha]; exact attr1 a3 (small64 h4)
  | cache c =>
    obtain ⟨h1, h2, h3, h4, h5, h6⟩ := h
    refine ⟨w2, fun a ha => ?_, fun a ha => ?_⟩
    · rw [List.mem_singleton.1 ha]; exact (name_word h1).1
    · rcases List.mem_cons.1 ha with e | ha
      · rw [e]; exact attr1 a4 (small64 h2)
      rcases List.mem_cons.1 ha with e | ha
      · rw [e]; exact attr1 a5 (small64 h3)
      rcases List.mem_cons.1 ha with e | ha
      · rw [e]; exact attr1 a6 (wide64 h4)
      rw [List.mem_singleton.1 ha]
      refine ⟨a7, by simpa using h5, fun u hu => ?_⟩
      obtain ⟨v, hv, rfl⟩ := List.mem_map.1 hu
      exact small64 (h6 v hv)
  | link c =>
    obtain ⟨h1, h2, h3⟩ := h
    refine ⟨w3, fun a ha => ?_, fun a ha => ?_⟩
    · rcases List.mem_cons.1 ha with e | ha
      · rw [e]; exact small64 h1
      rw [List.mem_singleton.1 ha]; exact small64 h2
    · rw [List.mem_singleton.1 ha]; exact attr1 a8 (small64 h3)
  | mem c =>
    obtain ⟨h1, h2, h3, h4, h5⟩ := h
    refine ⟨w4, fun a ha => ?_, fun a ha => ?_⟩
    · rw [List.mem_singleton.1 ha]; exact (name_word h1).1
    · rcases List.mem_cons.1 ha with e | ha
      · rw [e]; exact attr1 a9 (wide64 h2)
      rcases List.mem_cons.1 ha with e | ha
      · rw [e]; exact attr1 a6 (wide64 h3)
      rcases List.mem_cons.1 ha with e | ha
      · rw [e]; exact attr1 a2 (small64 h4)
      rw [List.mem_singleton.1 ha]; exact attr1 a8 (small64 h5)
  | dev c =>
    obtain ⟨h1, h2, h3, h4, h5⟩ := h
    refine ⟨w5, fun a ha => ?_, fun a ha => ?_⟩
    · rw [List.mem_singleton.1 ha]; exact (name_word h1).1
    · rcases List.mem_cons.1 ha with e | ha
      · rw [e]; exact attr1 a2 (small64 h2)
      rcases List.mem_cons.1 ha with e | ha
      · rw [e]; exact attr1 a10 (small64 h3)
      rcases List.mem_cons.1 ha with e | ha
      · rw [e]; exact attr1 a9 (wide64 h4)
      rw [List.mem_singleton.1 ha]; exact attr1 a6 (wide64 h5)
/-- The text of a description. -/
def formatL (H : HwT) : List UInt8 := bts machineB ++ 32 :: 34 :: (bts H.Name ++ 34 :: 32 :: 123 :: 10 :: ((entsOf H).flatMap (fun x => x.item.txt) ++ [125, 10]))
def formatT (H : HwT) : List Tri := (1, machineB, 0) :: (3, H.Name, 0) :: (4, mkB [123], 0) :: ((entsOf H).flatMap (fun x => x.item.tok) ++ [(4, mkB [125], 0)])
/-- A description that can be written. -/
def PrintP (H : HwT) : Prop := H.Name.size ≤ 24 ∧ textB H.Name = true ∧ ∀ x ∈ entsOf H, x.ok
theorem text_in {s : ByteArray} (h : textB s = true) : (bts s).all inStrC = true := by
  refine List.all_eq_true.2 fun c hc => ?_
  have h1 := List.all_eq_true.1 h c hc
  unfold inTextC at h1
  unfold inStrC inStr
  simp only [Bool.not_eq_true', Bool.or_eq_false_iff, decide_eq_false_iff_not] at h1
  simp only [Bool.and_eq_true, decide_eq_true_eq]
  omega
theorem Tz.format {H : HwT} (h : PrintP H) : Tz (formatL H) (formatT H) := by
  obtain ⟨h1, h2, h3⟩ := h
  have h4 := Tz.items (l := [125, 10]) (Tz.pn (c := 125) (.inr (.inl rfl)) (Tz.sp (c := 10) (by decide) Tz.nil)) ((entsOf H).map Ent.item) fun i hi => by
    obtain ⟨x, hx, rfl⟩ := List.mem_map.1 hi
    exact Ent.itemOk (h3 x hx)
  rw [List.flatMap_map, List.flatMap_map] at h4
  have h5 := Tz.str (text_in h2) (Tz.sp (c := 32) (by decide) (Tz.pn (c := 123) (.inl rfl) (Tz.sp (c := 10) (by decide) h4)))
  have h6 := Tz.word (t := machineB) (by decide) noW_32 (Tz.sp (c := 32) (by decide) h5)
  have hE : formatL H = bts machineB ++ 32 :: ((34 :: (bts H.Name ++ [34])) ++ (32 :: 123 :: 10 :: ((entsOf H).flatMap (fun x => x.item.txt) ++ [125, 10]))) := by unfold formatL; simp
  rw [hE]
  exact h6
end Go.Proofs.YtimbobmmijgkiaaGreatDoor
end
/- The tokens of a printable description are read as this description (no program in sight). -/
section
open Go Mk
namespace Go.Proofs.YtimbobmmijgkiaaGreatDoor
set_option maxHeartbeats 4000000
attribute [local irreducible] Calls

section
variable {toks : List Tok} {e : PosT}
/-- From token k on these tokens follow. -/
def Fol (toks : List Tok) (k : Nat) (ks : List Tri) : Prop := (toks.drop k).map tri = ks
theorem Fol.get {k : Nat} {kd v : Int} {tx : ByteArray} {ks : List Tri} (h : Fol toks k ((kd, tx, v) :: ks)) : ∃ x, toks[k]? = some x ∧ x.Kind = kd ∧ x.Text = tx ∧ x.Value = v := by
  unfold Fol at h
  cases hd : toks.drop k with
  | nil => rw [hd] at h; cases h
  | cons x l =>
    rw [hd] at h
    have h1 := (List.cons.inj h).1
    have hx : toks[k]? = some x := by
      have := List.getElem?_drop (xs := toks) (i := k) (j := 0)
      rw [hd] at this
      simpa using this.symm
    have h2 : (x.Kind, x.Text, x.Value) = (kd, tx, v) := h1
    obtain ⟨rfl, h3⟩ := Prod.mk.inj h2
    obtain ⟨rfl, rfl⟩ := Prod.mk.inj h3
    exact ⟨x, hx, rfl, rfl, rfl⟩
theorem Fol.next {k : Nat} {t : Tri} {ks : List Tri} (h : Fol toks k (t :: ks)) : Fol toks (k + 1) ks := by
  unfold Fol at *
  rw [← List.drop_drop, List.map_drop, h]; rfl
theorem Fol.skip {k : Nat} {ks : List Tri} : ∀ {l : List Tri}, Fol toks k (l ++ ks) → Fol toks (k + l.length) ks
  | [], h => h
  | t :: l, h => by
    have := Fol.skip (k := k + 1) (l := l) (Fol.next h)
    rw [List.length_cons, Nat.add_comm l.length 1, ← Nat.add_assoc]; exact this
theorem Fol.len {k : Nat} {ks : List Tri} (h : Fol toks k ks) : k + ks.length ≤ max k toks.length := by
  unfold Fol at h
  have := congrArg List.length h
  simp only [List.length_map, List.length_drop] at this
  omega
theorem Fol.isS {k : Nat} {kd v : Int} {tx : ByteArray} {ks : List Tri} (h : Fol toks k ((kd, tx, v) :: ks)) (k2 : Int) (t2 : ByteArray) : isS toks k k2 t2 = (decide (kd = k2) && decide (tx = t2)) := by
  obtain ⟨x, hx, rfl, rfl, rfl⟩ := h.get
  unfold Go.Proofs.YtimbobmmijgkiaaGreatDoor.isS
  rw [hx]
theorem Fol.expect {k : Nat} {kd v : Int} {tx : ByteArray} {ks : List Tri} (h : Fol toks k ((kd, tx, v) :: ks)) : expectP toks e kd tx k = .ok ((), k + 1) := by
  unfold expectP
  rw [h.isS, if_pos (by simp)]
theorem Fol.nextP {k : Nat} {kd v : Int} {tx : ByteArray} {ks : List Tri} (h : Fol toks k ((kd, tx, v) :: ks)) : ∃ x, nextP toks e kd k = .ok (x, k) ∧ x.Text = tx ∧ x.Value = v := by
  obtain ⟨x, hx, rfl, rfl, rfl⟩ := h.get
  refine ⟨x, ?_, rfl, rfl⟩
  unfold Go.Proofs.YtimbobmmijgkiaaGreatDoor.nextP
  rw [hx]
  exact if_pos rfl
theorem Fol.name {k : Nat} {kd v : Int} {tx : ByteArray} {ks : List Tri} (h : Fol toks k ((kd, tx, v) :: ks)) (hs : tx.size ≤ 24) : nameP toks e kd k = .ok (tx, k + 1) := by
  obtain ⟨x, hx, h1, -⟩ := h.nextP (e := e)
  unfold nameP
  rw [hx]
  dsimp only
  rw [h1, if_neg (by omega)]
theorem Fol.number {k u : Nat} {ks : List Tri} {lim : Bool} (h : Fol toks k (numT u :: ks)) (hl : lim = true → u ≤ 2147483647) : numberP toks e lim k = .ok ((u : Nat), k + 1) := by
  obtain ⟨x, hx, -, h2⟩ := h.nextP (e := e)
  unfold numberP
  rw [hx]
  dsimp only
  rw [h2, if_neg (by rintro ⟨q1, q2⟩; have := hl q1; omega)]
theorem Fol.more {lim c : Bool} {ks : List Tri} : ∀ {l : List Nat} {f k : Nat} {acc : List Int}, Fol toks k (decR l ++ (4, mkB [59], 0) :: ks) → (l ≠ [] → c = true) → (∀ u ∈ l, lim = true → u ≤ 2147483647) → l.length < f → moreN toks e lim c f k acc = .ok (acc ++ l.map (fun u => ((u : Nat) : Int)), k + (decR l).length)
  | _, 0, _, _, _, _, _, hf => by omega
  | [], f + 1, k, acc, h, hc, hl, hf => by
    have h : Fol toks k ((4, mkB [59], 0) :: ks) := h
    unfold moreN
    rw [h.isS, show (decide (mkB [59] = commaB)) = false from by decide, Bool.and_false, Bool.and_false, if_neg (by decide)]
    simp [decR]
  | u :: l, f + 1, k, acc, h, hc, hl, hf => by
    have hE : decR (u :: l) = (4, mkB [44], 0) :: numT u :: decR l := by unfold decR; simp
    rw [hE] at h ⊢
    have h : Fol toks k ((4, mkB [44], 0) :: numT u :: (decR l ++ (4, mkB [59], 0) :: ks)) := h
    have h1 := h.next
    have ih := Fol.more (lim := lim) (c := c) (l := l) (f := f) (k := k + 1 + 1) (acc := acc ++ [((u : Nat) : Int)]) h1.next (fun _ => hc (by simp)) (fun x hx => hl x (List.mem_cons_of_mem _ hx)) (by simp at hf; omega)
    unfold moreN
    rw [hc (by simp), h.isS, if_pos (by decide), h1.number (hl u (by simp))]
    dsimp only
    rw [hc (by simp)] at ih
    rw [ih, List.append_assoc]
    congr 2
    simp only [List.length_cons]; omega
abbrev attrV (a : Attr) : ByteArray × List Int := (a.1, a.2.map fun u => ((u : Nat) : Int))
def AttrRd (a : Attr) : Prop := a.2 ≠ [] ∧ (1 < a.2.length → a.1 = coresB) ∧ ∀ u ∈ a.2, limB a.1 = true → u ≤ 2147483647
theorem Fol.one {a : Attr} (ha : AttrRd a) {names : List ByteArray} {got : List (ByteArray × List Int)} {k : Nat} {ks : List Tri} (h : Fol toks k (attrT a ++ ks)) (h1 : memB a.1 names = true) (h2 : memB a.1 (got.map (·.1)) = false) : oneAttr toks e names got k = .ok (attrV a, k + (attrT a).length) := by
  obtain ⟨n, l⟩ := a
  obtain ⟨r1, r2, r3⟩ := ha
  dsimp only at r1 r2 r3 h1 h2
  cases l with
  | nil => exact absurd rfl r1
  | cons u l =>
    have hT : attrT (n, u :: l) ++ ks = (1, n, 0) :: numT u :: (decR l ++ (4, mkB [59], 0) :: ks) := by unfold attrT decT; simp
    rw [hT] at h
    have hk := h.len
    obtain ⟨x, hx, x1, -⟩ := h.nextP (e := e)
    have hn := h.next
    have hm := hn.next
    unfold oneAttr
    rw [hx]
    dsimp only
    rw [x1, if_neg (by rw [h1]; simp), if_neg (by rw [h2]; simp), hn.number (r3 u (by simp))]
    dsimp only
    rw [hm.more (c := decide (n = coresB)) (fun hl => decide_eq_true (r2 (by cases l with | nil => exact absurd rfl hl | cons _ _ => simp))) (fun v hv => r3 v (by simp [hv])) (by
      have hd : l.length ≤ (decR l).length := by unfold decR; clear hk h hn hm hT r1 r2 r3; induction l with
        | nil => simp
        | cons a l ih => rw [List.flatMap_cons]; simp only [List.length_append, List.length_cons, List.length_nil]; omega
      simp only [List.length_cons, List.length_append] at hk
      omega)]
    dsimp only
    rw [(Fol.skip hm).expect (tx := semiB)]
    unfold attrT decT attrV
    simp only [List.length_cons, List.length_append, List.length_nil, List.map_cons, List.singleton_append]
    congr 2
    omega
theorem memB_iff {s : ByteArray} {l : List ByteArray} : memB s l = true ↔ s ∈ l := by
  unfold memB
  rw [List.any_eq_true]
  exact ⟨fun ⟨x, hx, h⟩ => by rw [of_decide_eq_true h]; exact hx, fun h => ⟨s, h, decide_eq_true rfl⟩⟩
theorem Fol.attrN {names : List ByteArray} {ks : List Tri} : ∀ {xs : List Attr} {f k : Nat} {got : List (ByteArray × List Int)}, Fol toks k (xs.flatMap attrT ++ (4, mkB [125], 0) :: ks) → (∀ a ∈ xs, AttrRd a ∧ a.1 ∈ names) → (got.map (·.1) ++ xs.map (·.1)).Nodup → xs.length < f → attrN toks e names f k got = .ok (got ++ xs.map attrV, k + (xs.flatMap attrT).length)
  | _, 0, _, _, _, _, _, hf => by omega
  | [], f + 1, k, got, h, _, _, _ => by
    have h : Fol toks k ((4, mkB [125], 0) :: ks) := h
    unfold Go.Proofs.YtimbobmmijgkiaaGreatDoor.attrN
    rw [h.isS, if_pos (by decide)]
    simp
  | a :: xs, f + 1, k, got, h, ha, hd, hf => by
    have hT : (a :: xs).flatMap attrT ++ (4, mkB [125], 0) :: ks = attrT a ++ (xs.flatMap attrT ++ (4, mkB [125], 0) :: ks) := by simp
    rw [hT] at h
    have h0 : Fol toks k ((1, a.1, 0) :: ((decT a.2 ++ [(4, mkB [59], 0)]) ++ (xs.flatMap attrT ++ (4, mkB [125], 0) :: ks))) := h
    obtain ⟨q1, q2⟩ := ha a (by simp)
    have hno : memB a.1 (got.map (·.1)) = false := by
      rw [Bool.eq_false_iff]
      intro q
      have q := memB_iff.1 q
      rw [List.map_cons] at hd
      exact (List.nodup_append.1 hd).2.2 a.1 q a.1 (by simp) rfl
    have ih := Fol.attrN (xs := xs) (f := f) (k := k + (attrT a).length) (got := got ++ [attrV a]) (Fol.skip h) (fun x hx => ha x (List.mem_cons_of_mem _ hx)) (by simpa using hd) (by simp at hf; omega)
    unfold Go.Proofs.YtimbobmmijgkiaaGreatDoor.attrN
    rw [h0.isS, show (decide ((1 : Int) = 4)) = false from rfl, Bool.false_and, if_neg (by decide), h.one q1 (memB_iff.2 q2) hno]
    dsimp only
    rw [ih]
    simp [Nat.add_assoc]
theorem attrT_pos (a : Attr) : 1 ≤ (attrT a).length := by unfold attrT; simp
theorem attrs_len : ∀ xs : List Attr, xs.length ≤ (xs.flatMap attrT).length
  | [] => by simp
  | a :: xs => by
    have := attrs_len xs
    have := attrT_pos a
    rw [List.flatMap_cons, List.length_append, List.length_cons]; omega
def attrsT (xs : List Attr) : List Tri := (4, mkB [123], 0) :: (xs.flatMap attrT ++ [(4, mkB [125], 0)])
theorem Fol.attrs {names : List ByteArray} {ks : List Tri} {xs : List Attr} {k : Nat} (h : Fol toks k (attrsT xs ++ ks)) (ha : ∀ a ∈ xs, AttrRd a ∧ a.1 ∈ names) (hd : (xs.map (·.1)).Nodup) (hn : names.length ≤ xs.length) : attrP toks e names k = .ok (xs.map attrV, k + (attrsT xs).length) := by
  have hT : attrsT xs ++ ks = (4, mkB [123], 0) :: (xs.flatMap attrT ++ (4, mkB [125], 0) :: ks) := by unfold attrsT; simp
  rw [hT] at h
  have h1 := h.next
  have hl := h1.len
  have hk := attrs_len xs
  simp only [List.length_append, List.length_cons] at hl
  unfold attrP
  rw [h.expect (tx := openB)]
  dsimp only
  rw [Fol.attrN (xs := xs) h1 ha (by simpa using hd) (by omega)]
  dsimp only
  rw [if_neg (by simp; omega)]
  unfold attrsT
  simp only [List.length_cons, List.length_append, List.length_nil, List.nil_append]
  congr 2
  omega
theorem aGet_cons {α β : Type} [DecidableEq α] (a b : α) (v : β) (l : List (α × β)) : aGet ((a, v) :: l) b = if a = b then some v else aGet l b := by
  unfold aGet aIx
  rw [List.findIdx?_cons]
  by_cases h : a = b
  · simp [h]
  · simp only [decide_eq_false h, if_neg h, Bool.false_eq_true, if_false]
    cases List.findIdx? (fun p : α × β => decide (p.1 = b)) l <;> simp
theorem wrapS {n : Int} (h : smallI n) : IntKind.i64.wrap ((n.toNat : Nat) : Int) = n := by
  unfold smallI at h
  rw [IntKind.wrap_i64]; omega
theorem wideS {n : Int} (h : wideI n) : ((n.toNat : Nat) : Int) = n := by unfold wideI at h; omega
theorem small_num {n : Int} (h : smallI n) : n.toNat ≤ 2147483647 := by unfold smallI at h; omega
theorem rd1 {w : ByteArray} {n : Int} (h : smallI n) : AttrRd (w, [n.toNat]) := ⟨by simp, fun q => by simp at q, fun u hu _ => by rw [List.mem_singleton.1 hu]; exact small_num h⟩
theorem rd2 {w : ByteArray} {u : Nat} (h : limB w = false) : AttrRd (w, [u]) := ⟨by simp, fun q => by simp at q, fun u hu q => by rw [h] at q; cases q⟩
def entP (toks : List Tok) (e : PosT) (k : Nat) (x : Ent) (H : HwT) : Prop := itemP toks e k H = .ok (Ent.add H x, k + x.item.tok.length)
theorem nd3 : ([widthB, nodeB, speedB] : List ByteArray).Nodup := by decide
theorem nd4 : ([levelB, lineB, sizeB, coresB] : List ByteArray).Nodup := by decide
theorem nd5 : ([baseB, sizeB, nodeB, latencyB] : List ByteArray).Nodup := by decide
theorem nd6 : ([nodeB, irqB, baseB, sizeB] : List ByteArray).Nodup := by decide
theorem Fol.ent {x : Ent} (hx : x.ok) {k : Nat} {ks : List Tri} (h : Fol toks k (x.item.tok ++ ks)) (H : HwT) : itemP toks e k H = .ok (Ent.add H x, k + x.item.tok.length) := by
  cases x with
  | core c =>
    obtain ⟨h1, h2, h3, h4⟩ := hx
    have h : Fol toks k ((1, coreB, 0) :: numT c.ID.toNat :: (attrsT [(widthB, [c.Width.toNat]), (nodeB, [c.Node.toNat]), (speedB, [c.Speed.toNat])] ++ ks)) := h
    obtain ⟨t, ht, t1, -⟩ := h.nextP (e := e)
    have g1 := h.next
    have g2 := g1.next
    have hA := Fol.attrs (e := e) (names := [widthB, nodeB, speedB]) g2 (fun a ha => by
      rcases List.mem_cons.1 ha with q | ha
      · rw [q]; exact ⟨rd1 h2, by simp⟩
      rcases List.mem_cons.1 ha with q | ha
      · rw [q]; exact ⟨rd1 h3, by simp⟩
      rw [List.mem_singleton.1 ha]; exact ⟨rd1 h4, by simp⟩) nd3 (Nat.le_refl _)
    unfold itemP
    rw [ht]
    dsimp only
    rw [t1, if_pos rfl]
    unfold coreP
    rw [g1.number (fun _ => small_num h1)]
    dsimp only
    rw [hA]
    show Except.ok (({ H with Cores := H.Cores ++ [_] } : HwT), _) = Except.ok (({ H with Cores := H.Cores ++ [_] } : HwT), _)
    unfold intOf numOf
    simp only [List.map_cons, List.map_nil, attrV, aGet_cons]
    rw [if_neg (show ¬ widthB = nodeB by decide), if_neg (show ¬ widthB = speedB by decide), if_neg (show ¬ nodeB = speedB by decide)]
    simp only [if_true, Option.getD_some, List.headD_cons]
    rw [wrapS h1, wrapS h2, wrapS h3, wrapS h4]
    congr 2
  | cache c =>
    obtain ⟨h1, h2, h3, h4, h5, h6⟩ := hx
    have h : Fol toks k ((1, cacheB, 0) :: (1, c.Name, 0) :: (attrsT [(levelB, [c.Level.toNat]), (lineB, [c.Line.toNat]), (sizeB, [c.Size.toNat]), (coresB, c.Cores.map Int.toNat)] ++ ks)) := h
    obtain ⟨t, ht, t1, -⟩ := h.nextP (e := e)
    have g1 := h.next
    have g2 := g1.next
    have hA := Fol.attrs (e := e) (names := [levelB, lineB, sizeB, coresB]) g2 (fun a ha => by
      rcases List.mem_cons.1 ha with q | ha
      · rw [q]; exact ⟨rd1 h2, by simp⟩
      rcases List.mem_cons.1 ha with q | ha
      · rw [q]; exact ⟨rd1 h3, by simp⟩
      rcases List.mem_cons.1 ha with q | ha
      · rw [q]; exact ⟨rd2 (by decide), by simp⟩
      rw [List.mem_singleton.1 ha]
      refine ⟨⟨by simpa using h5, fun _ => rfl, fun u hu _ => ?_⟩, by simp⟩
      obtain ⟨v, hv, rfl⟩ := List.mem_map.1 hu
      exact small_num (h6 v hv)) nd4 (Nat.le_refl _)
    unfold itemP
    rw [ht]
    dsimp only
    rw [t1, if_neg (show ¬ cacheB = coreB by decide), if_pos rfl]
    unfold cacheP
    rw [g1.name (name_word h1).2]
    dsimp only
    rw [hA]
    show Except.ok (({ H with Caches := H.Caches ++ [_] } : HwT), _) = Except.ok (({ H with Caches := H.Caches ++ [_] } : HwT), _)
    unfold intOf numOf
    simp only [List.map_cons, List.map_nil, attrV, aGet_cons]
    rw [if_neg (show ¬ levelB = lineB by decide), if_neg (show ¬ levelB = sizeB by decide), if_neg (show ¬ lineB = sizeB by decide), if_neg (show ¬ levelB = coresB by decide), if_neg (show ¬ lineB = coresB by decide), if_neg (show ¬ sizeB = coresB by decide)]
    simp only [if_true, Option.getD_some, List.headD_cons]
    have hC : c.Cores.map ((fun v => IntKind.i64.wrap v) ∘ (fun u : Nat => (u : Int)) ∘ Int.toNat) = c.Cores := by
      have : c.Cores.map ((fun v => IntKind.i64.wrap v) ∘ (fun u : Nat => (u : Int)) ∘ Int.toNat) = c.Cores.map id := List.map_congr_left fun v hv => wrapS (h6 v hv)
      rw [this, List.map_id]
    have hC' : ((c.Cores.map Int.toNat).map fun u : Nat => (u : Int)).map (fun v => IntKind.i64.wrap v) = c.Cores := by
      rw [List.map_map, List.map_map]; exact hC
    rw [hC', wrapS h2, wrapS h3, wideS h4]
    congr 2
    show k + 1 + 1 + (attrsT (Ent.cache c).item.attrs).length = k + ((1, cacheB, 0) :: (1, c.Name, 0) :: attrsT (Ent.cache c).item.attrs : List Tri).length
    simp only [List.length_cons]; omega
  | link c =>
    obtain ⟨h1, h2, h3⟩ := hx
    have h : Fol toks k ((1, linkB, 0) :: numT c.A.toNat :: numT c.B.toNat :: (attrsT [(latencyB, [c.Latency.toNat])] ++ ks)) := h
    obtain ⟨t, ht, t1, -⟩ := h.nextP (e := e)
    have g1 := h.next
    have g2 := g1.next
    have g3 := g2.next
    have hA := Fol.attrs (e := e) (names := [latencyB]) g3 (fun a ha => by rw [List.mem_singleton.1 ha]; exact ⟨rd1 h3, by simp⟩) (by simp) (Nat.le_refl _)
    unfold itemP
    rw [ht]
    dsimp only
    rw [t1, if_neg (show ¬ linkB = coreB by decide), if_neg (show ¬ linkB = cacheB by decide), if_pos rfl]
    unfold linkP
    rw [g1.number (fun _ => small_num h1)]
    dsimp only
    rw [g2.number (fun _ => small_num h2)]
    dsimp only
    rw [hA]
    show Except.ok (({ H with Links := H.Links ++ [_] } : HwT), _) = Except.ok (({ H with Links := H.Links ++ [_] } : HwT), _)
    unfold intOf numOf
    simp only [List.map_cons, List.map_nil, attrV, aGet_cons]
    simp only [if_true, Option.getD_some, List.headD_cons]
    rw [wrapS h1, wrapS h2, wrapS h3]
    congr 2
  | mem c =>
    obtain ⟨h1, h2, h3, h4, h5⟩ := hx
    have h : Fol toks k ((1, memoryB, 0) :: (1, c.Name, 0) :: (attrsT [(baseB, [c.Base.toNat]), (sizeB, [c.Size.toNat]), (nodeB, [c.Node.toNat]), (latencyB, [c.Latency.toNat])] ++ ks)) := h
    obtain ⟨t, ht, t1, -⟩ := h.nextP (e := e)
    have g1 := h.next
    have g2 := g1.next
    have hA := Fol.attrs (e := e) (names := [baseB, sizeB, nodeB, latencyB]) g2 (fun a ha => by
      rcases List.mem_cons.1 ha with q | ha
      · rw [q]; exact ⟨rd2 (by decide), by simp⟩
      rcases List.mem_cons.1 ha with q | ha
      · rw [q]; exact ⟨rd2 (by decide), by simp⟩
      rcases List.mem_cons.1 ha with q | ha
      · rw [q]; exact ⟨rd1 h4, by simp⟩
      rw [List.mem_singleton.1 ha]; exact ⟨rd1 h5, by simp⟩) nd5 (Nat.le_refl _)
    unfold itemP
    rw [ht]
    dsimp only
    rw [t1, if_neg (show ¬ memoryB = coreB by decide), if_neg (show ¬ memoryB = cacheB by decide), if_neg (show ¬ memoryB = linkB by decide), if_pos rfl]
    unfold memP
    rw [g1.name (name_word h1).2]
    dsimp only
    rw [hA]
    show Except.ok (({ H with Mems := H.Mems ++ [_] } : HwT), _) = Except.ok (({ H with Mems := H.Mems ++ [_] } : HwT), _)
    unfold intOf numOf
    simp only [List.map_cons, List.map_nil, attrV, aGet_cons]
    rw [if_neg (show ¬ baseB = sizeB by decide), if_neg (show ¬ baseB = nodeB by decide), if_neg (show ¬ sizeB = nodeB by decide), if_neg (show ¬ baseB = latencyB by decide), if_neg (show ¬ sizeB = latencyB by decide), if_neg (show ¬ nodeB = latencyB by decide)]
    simp only [if_true, Option.getD_some, List.headD_cons]
    rw [wideS h2, wideS h3, wrapS h4, wrapS h5]
    congr 2
  | dev c =>
    obtain ⟨h1, h2, h3, h4, h5⟩ := hx
    have h : Fol toks k ((1, deviceB, 0) :: (1, c.Name, 0) :: (attrsT [(nodeB, [c.Node.toNat]), (irqB, [c.IRQ.toNat]), (baseB, [c.Base.toNat]), (sizeB, [c.Size.toNat])] ++ ks)) := h
    obtain ⟨t, ht, t1, -⟩ := h.nextP (e := e)
    have g1 := h.next
    have g2 := g1.next
    have hA := Fol.attrs (e := e) (names := [nodeB, irqB, baseB, sizeB]) g2 (fun a ha => by
      rcases List.mem_cons.1 ha with q | ha
      · rw [q]; exact ⟨rd1 h2, by simp⟩
      rcases List.mem_cons.1 ha with q | ha
      · rw [q]; exact ⟨rd1 h3, by simp⟩
      rcases List.mem_cons.1 ha with q | ha
      · rw [q]; exact ⟨rd2 (by decide), by simp⟩
      rw [List.mem_singleton.1 ha]; exact ⟨rd2 (by decide), by simp⟩) nd6 (Nat.le_refl _)
    unfold itemP
    rw [ht]
    dsimp only
    rw [t1, if_neg (show ¬ deviceB = coreB by decide), if_neg (show ¬ deviceB = cacheB by decide), if_neg (show ¬ deviceB = linkB by decide), if_neg (show ¬ deviceB = memoryB by decide), if_pos rfl]
    unfold devP
    rw [g1.name (name_word h1).2]
    dsimp only
    rw [hA]
    show Except.ok (({ H with Devs := H.Devs ++ [_] } : HwT), _) = Except.ok (({ H with Devs := H.Devs ++ [_] } : HwT), _)
    unfold intOf numOf
    simp only [List.map_cons, List.map_nil, attrV, aGet_cons]
    rw [if_neg (show ¬ nodeB = irqB by decide), if_neg (show ¬ nodeB = baseB by decide), if_neg (show ¬ irqB = baseB by decide), if_neg (show ¬ nodeB = sizeB by decide), if_neg (show ¬ irqB = sizeB by decide), if_neg (show ¬ baseB = sizeB by decide)]
    simp only [if_true, Option.getD_some, List.headD_cons]
    rw [wrapS h2, wrapS h3, wideS h4, wideS h5]
    congr 2
theorem item_len (i : Item) : 1 ≤ i.tok.length := by unfold Item.tok; simp
theorem Fol.ents {ks : List Tri} : ∀ {xs : List Ent} {f k : Nat} {H : HwT}, Fol toks k (xs.flatMap (fun x => x.item.tok) ++ (4, mkB [125], 0) :: ks) → (∀ x ∈ xs, x.ok) → xs.length < f → itemsP toks e f k H = .ok (xs.foldl Ent.add H, k + (xs.flatMap fun x => x.item.tok).length)
  | _, 0, _, _, _, _, hf => by omega
  | [], f + 1, k, H, h, _, _ => by
    have h : Fol toks k ((4, mkB [125], 0) :: ks) := h
    unfold itemsP
    rw [h.isS, if_pos (by decide)]; rfl
  | x :: xs, f + 1, k, H, h, hx, hf => by
    have hT : (x :: xs).flatMap (fun x => x.item.tok) ++ (4, mkB [125], 0) :: ks = x.item.tok ++ (xs.flatMap (fun x => x.item.tok) ++ (4, mkB [125], 0) :: ks) := by simp
    rw [hT] at h
    have h0 : Fol toks k ((1, x.item.word, 0) :: ((x.item.args.map HArg.tok ++ ((4, mkB [123], 0) :: (x.item.attrs.flatMap attrT ++ [(4, mkB [125], 0)]))) ++ (xs.flatMap (fun x => x.item.tok) ++ (4, mkB [125], 0) :: ks))) := h
    have ih := Fol.ents (xs := xs) (f := f) (k := k + x.item.tok.length) (H := Ent.add H x) (Fol.skip h) (fun y hy => hx y (List.mem_cons_of_mem _ hy)) (by simp at hf; omega)
    unfold itemsP
    rw [h0.isS, show (decide ((1 : Int) = 4)) = false from rfl, Bool.false_and, if_neg (by decide), Fol.ent (hx x (by simp)) h H]
    dsimp only
    rw [ih, List.flatMap_cons, List.length_append, Nat.add_assoc]; rfl
end
theorem add_cores : ∀ (l : List CoreT) (H : HwT), (l.map Ent.core).foldl Ent.add H = { H with Cores := H.Cores ++ l }
  | [], H => by simp
  | x :: l, H => by rw [List.map_cons, List.foldl_cons, add_cores l]; simp [Ent.add]
theorem add_caches : ∀ (l : List CacheT) (H : HwT), (l.map Ent.cache).foldl Ent.add H = { H with Caches := H.Caches ++ l }
  | [], H => by simp
  | x :: l, H => by rw [List.map_cons, List.foldl_cons, add_caches l]; simp [Ent.add]
theorem add_links : ∀ (l : List LinkT) (H : HwT), (l.map Ent.link).foldl Ent.add H = { H with Links := H.Links ++ l }
  | [], H => by simp
  | x :: l, H => by rw [List.map_cons, List.foldl_cons, add_links l]; simp [Ent.add]
theorem add_mems : ∀ (l : List MemT) (H : HwT), (l.map Ent.mem).foldl Ent.add H = { H with Mems := H.Mems ++ l }
  | [], H => by simp
  | x :: l, H => by rw [List.map_cons, List.foldl_cons, add_mems l]; simp [Ent.add]
theorem add_devs : ∀ (l : List DevT) (H : HwT), (l.map Ent.dev).foldl Ent.add H = { H with Devs := H.Devs ++ l }
  | [], H => by simp
  | x :: l, H => by rw [List.map_cons, List.foldl_cons, add_devs l]; simp [Ent.add]
theorem add_all (H : HwT) : (entsOf H).foldl Ent.add ⟨H.Name, [], [], [], [], []⟩ = H := by
  unfold entsOf
  rw [List.foldl_append, List.foldl_append, List.foldl_append, List.foldl_append, add_cores, add_caches, add_links, add_mems, add_devs]
  simp
theorem items_len : ∀ xs : List Ent, xs.length ≤ (xs.flatMap fun x => x.item.tok).length
  | [] => by simp
  | x :: xs => by
    have := items_len xs
    have := item_len x.item
    rw [List.flatMap_cons, List.length_append, List.length_cons]; omega
/-- Read back. -/
theorem hardware_back {H : HwT} (h : PrintP H) {toks : List Tok} (ht : toks.map tri = formatT H) (e : PosT) : ∃ k, hardwareP toks e = .ok (H, k) := by
  obtain ⟨h1, h2, h3⟩ := h
  have g0 : Fol toks 0 ((1, machineB, 0) :: (3, H.Name, 0) :: (4, mkB [123], 0) :: ((entsOf H).flatMap (fun x => x.item.tok) ++ (4, mkB [125], 0) :: [])) := ht
  have g1 := g0.next
  have g2 := g1.next
  have g3 := g2.next
  have hl := g3.len
  have hk := items_len (entsOf H)
  simp only [List.length_append, List.length_cons, List.length_nil] at hl
  have hl2 := (Fol.skip g3).next
  unfold hardwareP
  rw [g0.expect]
  dsimp only
  rw [g1.name h1]
  dsimp only
  rw [g2.expect (tx := openB)]
  dsimp only
  rw [Fol.ents (xs := entsOf H) g3 h3 (by omega), add_all]
  dsimp only
  have hend : toks.length ≤ 0 + 1 + 1 + 1 + ((entsOf H).flatMap fun x => x.item.tok).length + 1 := by
    have h5 := congrArg List.length hl2
    simp only [List.length_map, List.length_drop, List.length_nil] at h5
    omega
  rw [if_neg (by omega)]
  exact ⟨_, rfl⟩
end Go.Proofs.YtimbobmmijgkiaaGreatDoor
end
/- Which descriptions hwdesc calls printable (printed by a program). -/
section
open Go Mk
namespace Go.Proofs.YtimbobmmijgkiaaGreatDoor
set_option maxHeartbeats 16000000
attribute [local irreducible] Calls

/-- How large the descriptions of the statements are at most. -/
structure HwSm (H : HwT) : Prop where
  n : H.Name.size ≤ 60
  c : H.Cores.length ≤ 40
  h : H.Caches.length ≤ 70
  l : H.Links.length ≤ 260
  m : H.Mems.length ≤ 70
  d : H.Devs.length ≤ 40
  hs : ∀ x ∈ H.Caches, x.Name.size ≤ 60 ∧ x.Cores.length ≤ 40
  ms : ∀ x ∈ H.Mems, x.Name.size ≤ 60
  ds : ∀ x ∈ H.Devs, x.Name.size ≤ 60
def coreN (c : CoreT) : List Int := [c.ID, c.Width, c.Node, c.Speed]
def cacheN (c : CacheT) : List Int := [c.Level, c.Line] ++ c.Cores
def linkN (c : LinkT) : List Int := [c.A, c.B, c.Latency]
def memN (c : MemT) : List Int := [c.Node, c.Latency]
def devNs (c : DevT) : List Int := [c.Node, c.IRQ]
def smallB (n : Int) : Bool := decide (0 ≤ n) && decide (n ≤ 2147483647)
abbrev nsA (H : HwT) : List ByteArray := H.Caches.map (·.Name)
abbrev nsB (H : HwT) : List ByteArray := nsA H ++ H.Mems.map (·.Name)
abbrev nsC (H : HwT) : List ByteArray := nsB H ++ H.Devs.map (·.Name)
abbrev xsA (H : HwT) : List Int := H.Cores.flatMap coreN
abbrev xsB (H : HwT) : List Int := xsA H ++ H.Caches.flatMap cacheN
abbrev xsC (H : HwT) : List Int := xsB H ++ H.Links.flatMap linkN
abbrev xsD (H : HwT) : List Int := xsC H ++ H.Mems.flatMap memN
abbrev xsE (H : HwT) : List Int := xsD H ++ H.Devs.flatMap devNs
def printB (H : HwT) : Bool := (H.Caches.all (fun c => decide (c.Cores.length ≠ 0)) && ((nsC H).all nameS && (xsE H).all smallB)) && (decide (H.Name.size ≤ 24) && textB H.Name)
theorem flat_le {α : Type} {f : α → List Int} {c : Nat} : ∀ (l : List α) (k : Nat), (∀ x ∈ l, (f x).length ≤ c) → ((l.take k).flatMap f).length ≤ l.length * c
  | [], _, _ => by simp
  | x :: l, 0, _ => by simp
  | x :: l, k + 1, h => by
    have h1 := flat_le l k fun y hy => h y (List.mem_cons_of_mem _ hy)
    have h2 := h x List.mem_cons_self
    rw [List.take_succ_cons, List.flatMap_cons, List.length_append, List.length_cons, Nat.add_mul]; omega
theorem flat_step {α : Type} {f : α → List Int} {l : List α} {k : Nat} {x : α} (h : l[k]? = some x) : (l.take (k + 1)).flatMap f = (l.take k).flatMap f ++ f x := by
  rw [List.take_add_one, h, List.flatMap_append]; simp
theorem map_step {α β : Type} {f : α → β} {l : List α} {k : Nat} {x : α} (h : l[k]? = some x) : (l.take (k + 1)).map f = (l.take k).map f ++ [f x] := by
  rw [List.take_add_one, h, List.map_append]; rfl
abbrev nRows (ss : List ByteArray) : List (List Value) := ss.map fun s => [.string s]
theorem nRows_len (l : List ByteArray) : (nRows l).length = l.length := List.length_map ..
theorem nRows_one (l : List ByteArray) : (nRows l).flatten.all (·.oneCell') = true := by
  induction l with
  | nil => rfl
  | cons x l ih => rw [show nRows (x :: l) = [.string x] :: nRows l from rfl, List.flatten_cons, List.all_append, ih]; rfl
theorem nRows_app (a b : List ByteArray) : nRows (a ++ b) = nRows a ++ nRows b := List.map_append
theorem intRows_len' (l : List Int) : (intRows l).length = l.length := List.length_map ..
theorem intRows_one' (l : List Int) : (intRows l).flatten.all (·.oneCell') = true := by
  induction l with
  | nil => rfl
  | cons x l ih => rw [show intRows (x :: l) = [.int .i64 x] :: intRows l from rfl, List.flatten_cons, List.all_append, ih]; rfl
theorem intRows_app' (a b : List Int) : intRows (a ++ b) = intRows a ++ intRows b := List.map_append
theorem drop_get {α : Type} {l : List α} {k : Nat} {x : α} (h : l[k]? = some x) : l.drop k = x :: l.drop (k + 1) := by
  obtain ⟨hk, rfl⟩ := List.getElem?_eq_some_iff.1 h
  exact List.drop_eq_getElem_cons hk
theorem bts_size {s : ByteArray} (h : s.size ≤ 60) : SB s := ⟨by omega⟩

theorem printable_any {Γ : Gho} {u : Value} {H : HwT} [hh : HwQ Γ u H] (hm : HwSm H) {S : List Res} {w : World} (hw : Wd Γ S w) :
    Calls Tryz.prog 33 #[u] w fun e w' => e = .returned (.bool (printB H)) ∧ Wd Γ S w' := by
  obtain ⟨a1, n1, c1, a2, n2, c2, a3, n3, c3, a4, n4, c4, a5, n5, c5, cs, rfl, hcs, hok, r1, r2, r3, r4, r5⟩ := hh.h
  obtain ⟨f1, -, -⟩ := rep_facts r1
  obtain ⟨f2, -, -⟩ := rep_facts r2
  obtain ⟨f3, -, -⟩ := rep_facts r3
  obtain ⟨f4, -, -⟩ := rep_facts r4
  obtain ⟨f5, -, -⟩ := rep_facts r5
  simp only [List.length_map] at f1 f2 f3 f4 f5
  have hcl : cs.length = H.Caches.length := by rw [← hcs, List.length_map]
  have m1 := hm.c
  have m2 := hm.h
  have m3 := hm.l
  have m4 := hm.m
  have m5 := hm.d
  have b1' : ∀ k, ((H.Cores.take k).flatMap coreN).length ≤ 160 := fun k => Nat.le_trans (flat_le (c := 4) H.Cores k fun x _ => Nat.le_refl _) (by omega)
  have b2' : ∀ k, ((H.Caches.take k).flatMap cacheN).length ≤ 2940 := fun k => Nat.le_trans (flat_le (c := 42) H.Caches k fun x hx => by have := (hm.hs x hx).2; unfold cacheN; simp; omega) (by omega)
  have b3' : ∀ k, ((H.Links.take k).flatMap linkN).length ≤ 780 := fun k => Nat.le_trans (flat_le (c := 3) H.Links k fun x _ => Nat.le_refl _) (by omega)
  have b4' : ∀ k, ((H.Mems.take k).flatMap memN).length ≤ 140 := fun k => Nat.le_trans (flat_le (c := 2) H.Mems k fun x _ => Nat.le_refl _) (by omega)
  have b5' : ∀ k, ((H.Devs.take k).flatMap devNs).length ≤ 80 := fun k => Nat.le_trans (flat_le (c := 2) H.Devs k fun x _ => Nat.le_refl _) (by omega)
  have t1' : (H.Cores.flatMap coreN).length ≤ 160 := by have := b1' H.Cores.length; rwa [List.take_length] at this
  have t2' : (H.Caches.flatMap cacheN).length ≤ 2940 := by have := b2' H.Caches.length; rwa [List.take_length] at this
  have t3' : (H.Links.flatMap linkN).length ≤ 780 := by have := b3' H.Links.length; rwa [List.take_length] at this
  have t4' : (H.Mems.flatMap memN).length ≤ 140 := by have := b4' H.Mems.length; rwa [List.take_length] at this
  have t5' : (H.Devs.flatMap devNs).length ≤ 80 := by have := b5' H.Devs.length; rwa [List.take_length] at this
  have u1 : (xsA H).length ≤ 160 := t1'
  have u2 : (xsB H).length ≤ 3100 := by show List.length (_ ++ _) ≤ _; rw [List.length_append]; omega
  have u3 : (xsC H).length ≤ 3880 := by show List.length (_ ++ _) ≤ _; rw [List.length_append]; omega
  have u4 : (xsD H).length ≤ 4020 := by show List.length (_ ++ _) ≤ _; rw [List.length_append]; omega
  have v1 : (nsA H).length ≤ 70 := by rw [List.length_map]; omega
  have v2 : (nsB H).length ≤ 140 := by show List.length (_ ++ _) ≤ _; simp only [List.length_append, List.length_map]; omega
  refine calls_of_W Tryz.func33 rfl rfl ?_
  repeat (first | refine byW ?_ | (refine byV ?_; intro w hw))
  refine lBox ?_
  intro b1 w hw
  have hw : Wd Γ (.blk b1 (hwC H a1 n1 c1 a2 n2 c2 a3 n3 c3 a4 n4 c4 a5 n5 c5) :: S) w := hw
  repeat (first | refine byW ?_ | (refine byV ?_; intro w hw))
  refine lBuildSlice [] ?_
  intro p0 w hw
  repeat (first | refine byW ?_ | (refine byV ?_; intro w hw))
  refine lBuildSlice [] ?_
  intro q0 w hw
  have hw : Wd Γ (.own (.slice (some p0) 0 0) 9 1 (nRows []) :: .own (.slice (some q0) 0 0) 3 1 (intRows []) :: .blk b1 (hwC H a1 n1 c1 a2 n2 c2 a3 n3 c3 a4 n4 c4 a5 n5 c5) :: S) w := hw.ps [1]
  repeat (first | refine byW ?_ | (refine byV ?_; intro w hw))
  refine W_loop (fun μ ρ w => ∃ (k : Nat) (an : Option Addr) (mn cn : Nat) (ax : Option Addr) (mx cx : Nat), μ + k = n1 ∧ Has ρ [(1, .pointer (some ⟨b1, 0, none⟩)), (3, .slice an mn cn), (4, .slice ax mx cx), (22, .slice a1 n1 c1), (23, .int .i64 n1), (24, .int .i64 k)] ∧ Wd Γ (.own (.slice an mn cn) 9 1 (nRows ([])) :: .own (.slice ax mx cx) 3 1 (intRows ((H.Cores.take k).flatMap coreN)) :: .blk b1 (hwC H a1 n1 c1 a2 n2 c2 a3 n3 c3 a4 n4 c4 a5 n5 c5) :: S) w) n1 ⟨0, some p0, 0, 0, some q0, 0, 0, by omega, ⟨rfl, rfl, rfl, rfl, rfl, rfl, trivial⟩, ?_⟩ ?_
  · simpa using hw
  clear hw
  rintro μ ρ w ⟨k, an, mn, cn, ax, mx, cx, hk, hρ, hw⟩
  rw [hρ.eq]
  have en := own_len (i := 0) hw rfl
  have ex := own_len (i := 1) hw rfl
  have bk := b1' k
  simp only [nRows_len, intRows_len', List.length_append, List.length_map, List.length_nil, List.length_take] at en ex
  repeat (first | refine byW ?_ | (refine byV ?_; intro w hw))
  refine W_cond rfl (fun h => ?_) (fun h => ?_)
  · have hkn : k < n1 := by have := of_decide_eq_true h; omega
    clear h
    obtain ⟨x, hx⟩ := get_lt (l := H.Cores) (k := k) (by omega)
    repeat (first | refine byW ?_ | (refine byV ?_; intro w hw))
    refine lAlloc ?_
    intro b6 w hw
    refine lStore ?_
    intro w hw
    have hw : Wd Γ (.blk b6 (.cells (enc x).toArray 77) :: .own (.slice an mn cn) 9 1 (nRows ([])) :: .own (.slice ax mx cx) 3 1 (intRows ((H.Cores.take k).flatMap coreN)) :: .blk b1 (hwC H a1 n1 c1 a2 n2 c2 a3 n3 c3 a4 n4 c4 a5 n5 c5) :: S) w := hw
    repeat (first | refine byW ?_ | (refine byV ?_; intro w hw))
    refine lBuildSlice [[.int .i64 x.ID], [.int .i64 x.Width], [.int .i64 x.Node], [.int .i64 x.Speed]] ?_
    intro q1 w hw
    have hw : Wd Γ (.own (.slice (some q1) 4 4) 3 1 (intRows (coreN x)) :: .blk b6 (.cells (enc x).toArray 77) :: .own (.slice an mn cn) 9 1 (nRows ([])) :: .own (.slice ax mx cx) 3 1 (intRows ((H.Cores.take k).flatMap coreN)) :: .blk b1 (hwC H a1 n1 c1 a2 n2 c2 a3 n3 c3 a4 n4 c4 a5 n5 c5) :: S) w := hw
    refine lApp (i := 3) (rows2 := intRows (coreN x)) ?_ (Wd.own_rd (i := 0) hw rfl) (h1 := intRows_one' _)
    intro v' w hw
    obtain ⟨ay, my, cy, rfl, -, -, -⟩ := hw.own_shape (i := 3) rfl
    repeat (first | refine byW ?_ | (refine byV ?_; intro w hw))
    refine ⟨μ - 1, by omega, k + 1, an, mn, cn, ay, my, cy, by omega, ⟨rfl, rfl, rfl, rfl, rfl, rfl, trivial⟩, ?_⟩
    rw [flat_step hx, intRows_app']
    exact hw.ds [0, 0]
  have hkn : n1 ≤ k := by have := of_decide_eq_false h; omega
  clear h
  rw [List.take_of_length_le (l := H.Cores) (i := k) (by omega)] at hw
  repeat (first | refine byW ?_ | (refine byV ?_; intro w hw))
  refine W_loop (fun μ ρ w => ∃ (k : Nat) (an : Option Addr) (mn cn : Nat) (ax : Option Addr) (mx cx : Nat), μ + k = n2 ∧ Has ρ [(1, .pointer (some ⟨b1, 0, none⟩)), (3, .slice an mn cn), (4, .slice ax mx cx), (41, .slice a2 n2 c2), (42, .int .i64 n2), (43, .int .i64 k)] ∧ H.Caches.all (fun c => decide (c.Cores.length ≠ 0)) = (H.Caches.drop k).all (fun c => decide (c.Cores.length ≠ 0)) ∧ Wd Γ (.own (.slice an mn cn) 9 1 (nRows ((H.Caches.take k).map (·.Name))) :: .own (.slice ax mx cx) 3 1 (intRows (xsA H ++ (H.Caches.take k).flatMap cacheN)) :: .blk b1 (hwC H a1 n1 c1 a2 n2 c2 a3 n3 c3 a4 n4 c4 a5 n5 c5) :: S) w) n2 ⟨0, an, mn, cn, ax, mx, cx, by omega, ⟨rfl, rfl, rfl, rfl, rfl, rfl, trivial⟩, rfl, ?_⟩ ?_
  · simpa using hw
  clear hw
  rintro μ ρ w ⟨k, an, mn, cn, ax, mx, cx, hk, hρ, hal, hw⟩
  rw [hρ.eq]
  have en := own_len (i := 0) hw rfl
  have ex := own_len (i := 1) hw rfl
  have bk := b2' k
  simp only [nRows_len, intRows_len', List.length_append, List.length_map, List.length_nil, List.length_take] at en ex
  repeat (first | refine byW ?_ | (refine byV ?_; intro w hw))
  refine W_cond rfl (fun h => ?_) (fun h => ?_)
  · have hkn : k < n2 := by have := of_decide_eq_true h; omega
    clear h
    obtain ⟨x, hx⟩ := get_lt (l := cs) (k := k) (by omega)
    obtain ⟨g1, g2, g3⟩ := (hok x (List.mem_of_getElem? hx)).facts
    have hxT : H.Caches[k]? = some x.T := by rw [← hcs, List.getElem?_map, hx]; rfl
    have hxs := (hm.hs x.T (List.mem_of_getElem? hxT)).2
    have hxs : x.Cores.length ≤ 40 := hxs
    have hrd : RepS Γ (.slice x.A x.N x.C) 1 (intRows x.Cores) := hok x (List.mem_of_getElem? hx)
    rw [drop_get hxT, List.all_cons] at hal
    repeat (first | refine byW ?_ | (refine byV ?_; intro w hw))
    refine lAlloc ?_
    intro b8 w hw
    refine lStore ?_
    intro w hw
    have hw : Wd Γ (.blk b8 (.cells (cC x).toArray 79) :: .own (.slice an mn cn) 9 1 (nRows ((H.Caches.take k).map (·.Name))) :: .own (.slice ax mx cx) 3 1 (intRows (xsA H ++ (H.Caches.take k).flatMap cacheN)) :: .blk b1 (hwC H a1 n1 c1 a2 n2 c2 a3 n3 c3 a4 n4 c4 a5 n5 c5) :: S) w := hw
    repeat (first | refine byW ?_ | (refine byV ?_; intro w hw))
    refine W_cond rfl (fun h => ?_) (fun h => ?_)
    · have h : x.N = 0 := by have := of_decide_eq_true h; omega
      repeat (first | refine byW ?_ | (refine byV ?_; intro w hw))
      refine ⟨_, rfl, ret_b rfl ?_, hw.ds [0, 0, 0, 0]⟩
      unfold printB
      have : decide (x.T.Cores.length ≠ 0) = false := decide_eq_false (by show ¬ x.Cores.length ≠ 0; omega)
      rw [hal, this]; rfl
    have h : x.N ≠ 0 := by have := of_decide_eq_false h; omega
    have hal : H.Caches.all (fun c => decide (c.Cores.length ≠ 0)) = (H.Caches.drop (k + 1)).all (fun c => decide (c.Cores.length ≠ 0)) := by
      have : decide (x.T.Cores.length ≠ 0) = true := decide_eq_true (by show x.Cores.length ≠ 0; omega)
      rw [hal, this, Bool.true_and]
    repeat (first | refine byW ?_ | (refine byV ?_; intro w hw))
    refine lBuildSlice [[.string x.Name]] ?_
    intro q1 w hw
    have hw : Wd Γ (.own (.slice (some q1) 1 1) 9 1 (nRows [x.Name]) :: .blk b8 (.cells (cC x).toArray 79) :: .own (.slice an mn cn) 9 1 (nRows ((H.Caches.take k).map (·.Name))) :: .own (.slice ax mx cx) 3 1 (intRows (xsA H ++ (H.Caches.take k).flatMap cacheN)) :: .blk b1 (hwC H a1 n1 c1 a2 n2 c2 a3 n3 c3 a4 n4 c4 a5 n5 c5) :: S) w := hw
    repeat (first | refine byW ?_ | (refine byV ?_; intro w hw))
    refine lApp (i := 2) (rows2 := nRows [x.Name]) ?_ (Wd.own_rd (i := 0) hw rfl) (h1 := nRows_one _)
    intro v' w hw
    obtain ⟨ay, my, cy, rfl, -, -, -⟩ := hw.own_shape (i := 2) rfl
    have hw : Wd Γ (.blk b8 (.cells (cC x).toArray 79) :: .own (.slice ay my cy) 9 1 (nRows ((H.Caches.take k).map (·.Name)) ++ nRows [x.Name]) :: .own (.slice ax mx cx) 3 1 (intRows (xsA H ++ (H.Caches.take k).flatMap cacheN)) :: .blk b1 (hwC H a1 n1 c1 a2 n2 c2 a3 n3 c3 a4 n4 c4 a5 n5 c5) :: S) w := hw.drop
    repeat (first | refine byW ?_ | (refine byV ?_; intro w hw))
    refine W_mixQ [.blk b8 _, .own _ _ _ _] (.own (.slice ax mx cx) 3 1 (intRows (xsA H ++ (H.Caches.take k).flatMap cacheN)) :: .blk b1 (hwC H a1 n1 c1 a2 n2 c2 a3 n3 c3 a4 n4 c4 a5 n5 c5) :: S) [61, 62, 65] 4 (.slice ax mx cx) [[],[],[],[],[],[0],[0],[],[],[0],[0,1]] [[1],[],[],[],[],[0],[0],[],[],[0],[0,1]] hw ?_
    refine mMoveR (dd := 4) ?_
    repeat (first | refine mY ?_ | refine mP ?_ | refine mPg ?_)
    refine mStepY (φ := fun (_ : Unit) _ => True) (R := fun _ => (.own (.slice ax mx cx) 3 1 (intRows (xsA H ++ (H.Caches.take k).flatMap cacheN)) :: .blk b1 (hwC H a1 n1 c1 a2 n2 c2 a3 n3 c3 a4 n4 c4 a5 n5 c5) :: S)) (v := undef) (T' := Value) (fun t g => g 61 = t) (fun t => .own t 3 1 (intRows [x.Level, x.Line]) :: (.own (.slice ax mx cx) 3 1 (intRows (xsA H ++ (H.Caches.take k).flatMap cacheN)) :: .blk b1 (hwC H a1 n1 c1 a2 n2 c2 a3 n3 c3 a4 n4 c4 a5 n5 c5) :: S)) (fun t g w Y ht hw => s_buildSlice (rws := intRows [x.Level, x.Line]) (cells := [.int .i64 x.Level, .int .i64 x.Line]) hw rfl rfl rfl (by simp [intRows]) (by decide) fun q w' hw' => ⟨_, rfl, (fun h => by cases h), hw'⟩) ?_
    refine mStepY (φ := fun (t : Value) g => g 61 = t) (R := fun t => .own t 3 1 (intRows [x.Level, x.Line]) :: (.own (.slice ax mx cx) 3 1 (intRows (xsA H ++ (H.Caches.take k).flatMap cacheN)) :: .blk b1 (hwC H a1 n1 c1 a2 n2 c2 a3 n3 c3 a4 n4 c4 a5 n5 c5) :: S)) (v := undef) (T' := Value) (fun t g => g 62 = t) (fun t => .own t 3 1 (intRows (xsA H ++ (H.Caches.take k).flatMap cacheN) ++ intRows [x.Level, x.Line]) :: .blk b1 (hwC H a1 n1 c1 a2 n2 c2 a3 n3 c3 a4 n4 c4 a5 n5 c5) :: S) (fun t g w Y ht hw => ?_) ?_
    · obtain ⟨d1, e1, z1, rfl, hn1, -, -⟩ := hw.own_shape (i := 0) rfl
      simp [intRows] at hn1
      exact s_append (i := 1) (rows2 := intRows [x.Level, x.Line]) hw rfl ht rfl (Wd.own_rd (i := 0) hw rfl) (by rw [hn1]; rfl) (List.all_eq_true.1 (intRows_one' _)) (by omega) (by omega) fun v' w' hw' => ⟨v', rfl, (fun h => by cases h), hw'.drop⟩
    repeat (first | refine mY ?_ | refine mP ?_ | refine mPg ?_)
    refine mStepY (φ := fun (t : Value) g => g 62 = t) (R := fun t => .own t 3 1 (intRows (xsA H ++ (H.Caches.take k).flatMap cacheN) ++ intRows [x.Level, x.Line]) :: .blk b1 (hwC H a1 n1 c1 a2 n2 c2 a3 n3 c3 a4 n4 c4 a5 n5 c5) :: S) (v := undef) (T' := Value) (fun t g => g 65 = t) (fun t => .own t 3 1 ((intRows (xsA H ++ (H.Caches.take k).flatMap cacheN) ++ intRows [x.Level, x.Line]) ++ intRows x.Cores) :: .blk b1 (hwC H a1 n1 c1 a2 n2 c2 a3 n3 c3 a4 n4 c4 a5 n5 c5) :: S) (fun t g w Y ht hw => ?_) ?_
    · obtain ⟨d1, e1, z1, rfl, hn1, -, -⟩ := hw.own_shape (i := 0) rfl
      simp only [List.length_append, intRows_len', List.length_cons, List.length_nil] at hn1
      exact s_append (i := 0) (rows2 := intRows x.Cores) hw ht (show ev _ _ = .slice x.A x.N x.C from rfl) rfl (RepS.rd hrd hw) (by rw [intRows_len']; exact g1) (List.all_eq_true.1 (intRows_one' _)) (by omega) (by omega) fun v' w' hw' => ⟨v', rfl, (fun h => by cases h), hw'⟩
    refine mAssY (φ := fun (t : Value) g => g 65 = t) (dx := 65) (dd := 4) (fun t g => g 4 = t) (fun t g ht => ht) ?_
    refine mEndQ (φ := fun (t : Value) g => g 4 = t) fun t w g ht hw => ?_
    obtain ⟨az, mz, cz, rfl, -, -, -⟩ := hw.own_shape (i := 0) rfl
    refine W_has (l := [(1, .pointer (some ⟨b1, 0, none⟩)), (3, .slice ay my cy), (4, .slice az mz cz), (41, .slice a2 n2 c2), (42, .int .i64 n2), (43, .int .i64 k)]) ⟨rfl, rfl, ht, rfl, rfl, rfl, trivial⟩ fun ρ hρ => ?_
    rw [hρ.eq]
    repeat (first | refine byW ?_ | (refine byV ?_; intro w hw))
    refine ⟨μ - 1, by omega, k + 1, ay, my, cy, az, mz, cz, by omega, ⟨rfl, rfl, rfl, rfl, rfl, rfl, trivial⟩, hal, ?_⟩
    rw [flat_step hxT, map_step hxT, ← List.append_assoc, intRows_app', nRows_app]
    have hE : intRows (cacheN x.T) = intRows [x.Level, x.Line] ++ intRows x.Cores := intRows_app' _ _
    rw [hE, ← List.append_assoc]
    have hw : Wd Γ ((.own (.slice az mz cz) 3 1 ((intRows (xsA H ++ (H.Caches.take k).flatMap cacheN) ++ intRows [x.Level, x.Line]) ++ intRows x.Cores) :: .blk b1 (hwC H a1 n1 c1 a2 n2 c2 a3 n3 c3 a4 n4 c4 a5 n5 c5) :: S) ++ [.blk b8 _, .own _ _ _ _]) w := hw
    have hw := hw.perm List.perm_append_comm
    have hw : Wd Γ (.blk b8 (.cells (cC x).toArray 79) :: .own (.slice ay my cy) 9 1 (nRows ((H.Caches.take k).map (·.Name)) ++ nRows [x.Name]) :: .own (.slice az mz cz) 3 1 ((intRows (xsA H ++ (H.Caches.take k).flatMap cacheN) ++ intRows [x.Level, x.Line]) ++ intRows x.Cores) :: .blk b1 (hwC H a1 n1 c1 a2 n2 c2 a3 n3 c3 a4 n4 c4 a5 n5 c5) :: S) w := hw
    exact hw.drop
  have hkn : n2 ≤ k := by have := of_decide_eq_false h; omega
  clear h
  rw [List.take_of_length_le (l := H.Caches) (i := k) (by omega)] at hw
  rw [List.drop_eq_nil_of_le (by omega)] at hal
  repeat (first | refine byW ?_ | (refine byV ?_; intro w hw))
  refine W_loop (fun μ ρ w => ∃ (k : Nat) (an : Option Addr) (mn cn : Nat) (ax : Option Addr) (mx cx : Nat), μ + k = n3 ∧ Has ρ [(1, .pointer (some ⟨b1, 0, none⟩)), (3, .slice an mn cn), (4, .slice ax mx cx), (68, .slice a3 n3 c3), (69, .int .i64 n3), (70, .int .i64 k)] ∧ Wd Γ (.own (.slice an mn cn) 9 1 (nRows (nsA H)) :: .own (.slice ax mx cx) 3 1 (intRows (xsB H ++ (H.Links.take k).flatMap linkN)) :: .blk b1 (hwC H a1 n1 c1 a2 n2 c2 a3 n3 c3 a4 n4 c4 a5 n5 c5) :: S) w) n3 ⟨0, an, mn, cn, ax, mx, cx, by omega, ⟨rfl, rfl, rfl, rfl, rfl, rfl, trivial⟩, ?_⟩ ?_
  · simpa using hw
  clear hw
  rintro μ ρ w ⟨k, an, mn, cn, ax, mx, cx, hk, hρ, hw⟩
  rw [hρ.eq]
  have en := own_len (i := 0) hw rfl
  have ex := own_len (i := 1) hw rfl
  have bk := b3' k
  simp only [nRows_len, intRows_len', List.length_append, List.length_map, List.length_nil, List.length_take] at en ex
  repeat (first | refine byW ?_ | (refine byV ?_; intro w hw))
  refine W_cond rfl (fun h => ?_) (fun h => ?_)
  · have hkn : k < n3 := by have := of_decide_eq_true h; omega
    clear h
    obtain ⟨x, hx⟩ := get_lt (l := H.Links) (k := k) (by omega)
    repeat (first | refine byW ?_ | (refine byV ?_; intro w hw))
    refine lAlloc ?_
    intro b6 w hw
    refine lStore ?_
    intro w hw
    have hw : Wd Γ (.blk b6 (.cells (enc x).toArray 82) :: .own (.slice an mn cn) 9 1 (nRows (nsA H)) :: .own (.slice ax mx cx) 3 1 (intRows (xsB H ++ (H.Links.take k).flatMap linkN)) :: .blk b1 (hwC H a1 n1 c1 a2 n2 c2 a3 n3 c3 a4 n4 c4 a5 n5 c5) :: S) w := hw
    repeat (first | refine byW ?_ | (refine byV ?_; intro w hw))
    refine lBuildSlice [[.int .i64 x.A], [.int .i64 x.B], [.int .i64 x.Latency]] ?_
    intro q1 w hw
    have hw : Wd Γ (.own (.slice (some q1) 3 3) 3 1 (intRows (linkN x)) :: .blk b6 (.cells (enc x).toArray 82) :: .own (.slice an mn cn) 9 1 (nRows (nsA H)) :: .own (.slice ax mx cx) 3 1 (intRows (xsB H ++ (H.Links.take k).flatMap linkN)) :: .blk b1 (hwC H a1 n1 c1 a2 n2 c2 a3 n3 c3 a4 n4 c4 a5 n5 c5) :: S) w := hw
    refine lApp (i := 3) (rows2 := intRows (linkN x)) ?_ (Wd.own_rd (i := 0) hw rfl) (h1 := intRows_one' _)
    intro v' w hw
    obtain ⟨ay, my, cy, rfl, -, -, -⟩ := hw.own_shape (i := 3) rfl
    repeat (first | refine byW ?_ | (refine byV ?_; intro w hw))
    refine ⟨μ - 1, by omega, k + 1, an, mn, cn, ay, my, cy, by omega, ⟨rfl, rfl, rfl, rfl, rfl, rfl, trivial⟩, ?_⟩
    rw [flat_step hx, ← List.append_assoc, intRows_app']
    exact hw.ds [0, 0]
  have hkn : n3 ≤ k := by have := of_decide_eq_false h; omega
  clear h
  rw [List.take_of_length_le (l := H.Links) (i := k) (by omega)] at hw
  repeat (first | refine byW ?_ | (refine byV ?_; intro w hw))
  refine W_loop (fun μ ρ w => ∃ (k : Nat) (an : Option Addr) (mn cn : Nat) (ax : Option Addr) (mx cx : Nat), μ + k = n4 ∧ Has ρ [(1, .pointer (some ⟨b1, 0, none⟩)), (3, .slice an mn cn), (4, .slice ax mx cx), (85, .slice a4 n4 c4), (86, .int .i64 n4), (87, .int .i64 k)] ∧ Wd Γ (.own (.slice an mn cn) 9 1 (nRows (nsA H ++ (H.Mems.take k).map (·.Name))) :: .own (.slice ax mx cx) 3 1 (intRows (xsC H ++ (H.Mems.take k).flatMap memN)) :: .blk b1 (hwC H a1 n1 c1 a2 n2 c2 a3 n3 c3 a4 n4 c4 a5 n5 c5) :: S) w) n4 ⟨0, an, mn, cn, ax, mx, cx, by omega, ⟨rfl, rfl, rfl, rfl, rfl, rfl, trivial⟩, ?_⟩ ?_
  · simpa using hw
  clear hw
  rintro μ ρ w ⟨k, an, mn, cn, ax, mx, cx, hk, hρ, hw⟩
  rw [hρ.eq]
  have en := own_len (i := 0) hw rfl
  have ex := own_len (i := 1) hw rfl
  have bk := b4' k
  simp only [nRows_len, intRows_len', List.length_append, List.length_map, List.length_nil, List.length_take] at en ex
  repeat (first | refine byW ?_ | (refine byV ?_; intro w hw))
  refine W_cond rfl (fun h => ?_) (fun h => ?_)
  · have hkn : k < n4 := by have := of_decide_eq_true h; omega
    clear h
    obtain ⟨x, hx⟩ := get_lt (l := H.Mems) (k := k) (by omega)
    repeat (first | refine byW ?_ | (refine byV ?_; intro w hw))
    refine lAlloc ?_
    intro b6 w hw
    refine lStore ?_
    intro w hw
    have hw : Wd Γ (.blk b6 (.cells (enc x).toArray 47) :: .own (.slice an mn cn) 9 1 (nRows (nsA H ++ (H.Mems.take k).map (·.Name))) :: .own (.slice ax mx cx) 3 1 (intRows (xsC H ++ (H.Mems.take k).flatMap memN)) :: .blk b1 (hwC H a1 n1 c1 a2 n2 c2 a3 n3 c3 a4 n4 c4 a5 n5 c5) :: S) w := hw
    repeat (first | refine byW ?_ | (refine byV ?_; intro w hw))
    refine lBuildSlice [[.string x.Name]] ?_
    intro q1 w hw
    have hw : Wd Γ (.own (.slice (some q1) 1 1) 9 1 (nRows [x.Name]) :: .blk b6 (.cells (enc x).toArray 47) :: .own (.slice an mn cn) 9 1 (nRows (nsA H ++ (H.Mems.take k).map (·.Name))) :: .own (.slice ax mx cx) 3 1 (intRows (xsC H ++ (H.Mems.take k).flatMap memN)) :: .blk b1 (hwC H a1 n1 c1 a2 n2 c2 a3 n3 c3 a4 n4 c4 a5 n5 c5) :: S) w := hw
    repeat (first | refine byW ?_ | (refine byV ?_; intro w hw))
    refine lApp (i := 2) (rows2 := nRows [x.Name]) ?_ (Wd.own_rd (i := 0) hw rfl) (h1 := nRows_one _)
    intro v' w hw
    obtain ⟨ay, my, cy, rfl, -, -, -⟩ := hw.own_shape (i := 2) rfl
    have hw : Wd Γ (.blk b6 (.cells (enc x).toArray 47) :: .own (.slice ay my cy) 9 1 (nRows (nsA H ++ (H.Mems.take k).map (·.Name)) ++ nRows [x.Name]) :: .own (.slice ax mx cx) 3 1 (intRows (xsC H ++ (H.Mems.take k).flatMap memN)) :: .blk b1 (hwC H a1 n1 c1 a2 n2 c2 a3 n3 c3 a4 n4 c4 a5 n5 c5) :: S) w := hw.drop
    repeat (first | refine byW ?_ | (refine byV ?_; intro w hw))
    refine lBuildSlice [[.int .i64 x.Node], [.int .i64 x.Latency]] ?_
    intro q2 w hw
    have hw : Wd Γ (.own (.slice (some q2) 2 2) 3 1 (intRows (memN x)) :: .blk b6 (.cells (enc x).toArray 47) :: .own (.slice ay my cy) 9 1 (nRows (nsA H ++ (H.Mems.take k).map (·.Name)) ++ nRows [x.Name]) :: .own (.slice ax mx cx) 3 1 (intRows (xsC H ++ (H.Mems.take k).flatMap memN)) :: .blk b1 (hwC H a1 n1 c1 a2 n2 c2 a3 n3 c3 a4 n4 c4 a5 n5 c5) :: S) w := hw
    refine lApp (i := 3) (rows2 := intRows (memN x)) ?_ (Wd.own_rd (i := 0) hw rfl) (h1 := intRows_one' _)
    intro v' w hw
    obtain ⟨az, mz, cz, rfl, -, -, -⟩ := hw.own_shape (i := 3) rfl
    repeat (first | refine byW ?_ | (refine byV ?_; intro w hw))
    refine ⟨μ - 1, by omega, k + 1, ay, my, cy, az, mz, cz, by omega, ⟨rfl, rfl, rfl, rfl, rfl, rfl, trivial⟩, ?_⟩
    rw [flat_step hx, map_step hx, ← List.append_assoc, ← List.append_assoc, intRows_app', nRows_app]
    exact hw.ds [0, 0]
  have hkn : n4 ≤ k := by have := of_decide_eq_false h; omega
  clear h
  rw [List.take_of_length_le (l := H.Mems) (i := k) (by omega)] at hw
  repeat (first | refine byW ?_ | (refine byV ?_; intro w hw))
  refine W_loop (fun μ ρ w => ∃ (k : Nat) (an : Option Addr) (mn cn : Nat) (ax : Option Addr) (mx cx : Nat), μ + k = n5 ∧ Has ρ [(1, .pointer (some ⟨b1, 0, none⟩)), (3, .slice an mn cn), (4, .slice ax mx cx), (105, .slice a5 n5 c5), (106, .int .i64 n5), (107, .int .i64 k)] ∧ Wd Γ (.own (.slice an mn cn) 9 1 (nRows (nsB H ++ (H.Devs.take k).map (·.Name))) :: .own (.slice ax mx cx) 3 1 (intRows (xsD H ++ (H.Devs.take k).flatMap devNs)) :: .blk b1 (hwC H a1 n1 c1 a2 n2 c2 a3 n3 c3 a4 n4 c4 a5 n5 c5) :: S) w) n5 ⟨0, an, mn, cn, ax, mx, cx, by omega, ⟨rfl, rfl, rfl, rfl, rfl, rfl, trivial⟩, ?_⟩ ?_
  · simpa using hw
  clear hw
  rintro μ ρ w ⟨k, an, mn, cn, ax, mx, cx, hk, hρ, hw⟩
  rw [hρ.eq]
  have en := own_len (i := 0) hw rfl
  have ex := own_len (i := 1) hw rfl
  have bk := b5' k
  simp only [nRows_len, intRows_len', List.length_append, List.length_map, List.length_nil, List.length_take] at en ex
  repeat (first | refine byW ?_ | (refine byV ?_; intro w hw))
  refine W_cond rfl (fun h => ?_) (fun h => ?_)
  · have hkn : k < n5 := by have := of_decide_eq_true h; omega
    clear h
    obtain ⟨x, hx⟩ := get_lt (l := H.Devs) (k := k) (by omega)
    repeat (first | refine byW ?_ | (refine byV ?_; intro w hw))
    refine lAlloc ?_
    intro b6 w hw
    refine lStore ?_
    intro w hw
    have hw : Wd Γ (.blk b6 (.cells (enc x).toArray 84) :: .own (.slice an mn cn) 9 1 (nRows (nsB H ++ (H.Devs.take k).map (·.Name))) :: .own (.slice ax mx cx) 3 1 (intRows (xsD H ++ (H.Devs.take k).flatMap devNs)) :: .blk b1 (hwC H a1 n1 c1 a2 n2 c2 a3 n3 c3 a4 n4 c4 a5 n5 c5) :: S) w := hw
    repeat (first | refine byW ?_ | (refine byV ?_; intro w hw))
    refine lBuildSlice [[.string x.Name]] ?_
    intro q1 w hw
    have hw : Wd Γ (.own (.slice (some q1) 1 1) 9 1 (nRows [x.Name]) :: .blk b6 (.cells (enc x).toArray 84) :: .own (.slice an mn cn) 9 1 (nRows (nsB H ++ (H.Devs.take k).map (·.Name))) :: .own (.slice ax mx cx) 3 1 (intRows (xsD H ++ (H.Devs.take k).flatMap devNs)) :: .blk b1 (hwC H a1 n1 c1 a2 n2 c2 a3 n3 c3 a4 n4 c4 a5 n5 c5) :: S) w := hw
    repeat (first | refine byW ?_ | (refine byV ?_; intro w hw))
    refine lApp (i := 2) (rows2 := nRows [x.Name]) ?_ (Wd.own_rd (i := 0) hw rfl) (h1 := nRows_one _)
    intro v' w hw
    obtain ⟨ay, my, cy, rfl, -, -, -⟩ := hw.own_shape (i := 2) rfl
    have hw : Wd Γ (.blk b6 (.cells (enc x).toArray 84) :: .own (.slice ay my cy) 9 1 (nRows (nsB H ++ (H.Devs.take k).map (·.Name)) ++ nRows [x.Name]) :: .own (.slice ax mx cx) 3 1 (intRows (xsD H ++ (H.Devs.take k).flatMap devNs)) :: .blk b1 (hwC H a1 n1 c1 a2 n2 c2 a3 n3 c3 a4 n4 c4 a5 n5 c5) :: S) w := hw.drop
    repeat (first | refine byW ?_ | (refine byV ?_; intro w hw))
    refine lBuildSlice [[.int .i64 x.Node], [.int .i64 x.IRQ]] ?_
    intro q2 w hw
    have hw : Wd Γ (.own (.slice (some q2) 2 2) 3 1 (intRows (devNs x)) :: .blk b6 (.cells (enc x).toArray 84) :: .own (.slice ay my cy) 9 1 (nRows (nsB H ++ (H.Devs.take k).map (·.Name)) ++ nRows [x.Name]) :: .own (.slice ax mx cx) 3 1 (intRows (xsD H ++ (H.Devs.take k).flatMap devNs)) :: .blk b1 (hwC H a1 n1 c1 a2 n2 c2 a3 n3 c3 a4 n4 c4 a5 n5 c5) :: S) w := hw
    refine lApp (i := 3) (rows2 := intRows (devNs x)) ?_ (Wd.own_rd (i := 0) hw rfl) (h1 := intRows_one' _)
    intro v' w hw
    obtain ⟨az, mz, cz, rfl, -, -, -⟩ := hw.own_shape (i := 3) rfl
    repeat (first | refine byW ?_ | (refine byV ?_; intro w hw))
    refine ⟨μ - 1, by omega, k + 1, ay, my, cy, az, mz, cz, by omega, ⟨rfl, rfl, rfl, rfl, rfl, rfl, trivial⟩, ?_⟩
    rw [flat_step hx, map_step hx, ← List.append_assoc, ← List.append_assoc, intRows_app', nRows_app]
    exact hw.ds [0, 0]
  have hkn : n5 ≤ k := by have := of_decide_eq_false h; omega
  clear h
  rw [List.take_of_length_le (l := H.Devs) (i := k) (by omega)] at hw
  repeat (first | refine byW ?_ | (refine byV ?_; intro w hw))
  have hln : (nsC H).length ≤ 180 := by simp only [List.length_append, List.length_map]; omega
  have hlx : (xsE H).length ≤ 4100 := by simp only [List.length_append]; omega
  have hw : Wd Γ (.own (.slice an mn cn) 9 1 (nRows (nsC H)) :: .own (.slice ax mx cx) 3 1 (intRows (xsE H)) :: .blk b1 (hwC H a1 n1 c1 a2 n2 c2 a3 n3 c3 a4 n4 c4 a5 n5 c5) :: S) w := hw
  have hsz : ∀ s ∈ nsC H, SB s := fun s hs => by
    rcases List.mem_append.1 hs with hs | hs
    · rcases List.mem_append.1 hs with hs | hs
      · obtain ⟨x, hx, rfl⟩ := List.mem_map.1 hs; exact bts_size (hm.hs x hx).1
      · obtain ⟨x, hx, rfl⟩ := List.mem_map.1 hs; exact bts_size (hm.ms x hx)
    · obtain ⟨x, hx, rfl⟩ := List.mem_map.1 hs; exact bts_size (hm.ds x hx)
  have hB : printB H = (((nsC H).all nameS && (xsE H).all smallB) && (decide (H.Name.size ≤ 24) && textB H.Name)) := by unfold printB; rw [hal]; simp
  rw [hB]
  clear hB hal
  revert hsz hw hln hlx
  generalize nsC H = NS
  generalize xsE H = XS
  intro hln hlx hw hsz
  have en := own_len (i := 0) hw rfl
  have ex := own_len (i := 1) hw rfl
  simp only [nRows_len, intRows_len'] at en ex
  refine W_loop (fun μ ρ w => ∃ (k : Nat), μ + k = mn ∧ Has ρ [(1, .pointer (some ⟨b1, 0, none⟩)), (3, .slice an mn cn), (4, .slice ax mx cx), (124, .slice an mn cn), (125, .int .i64 mn), (126, .int .i64 k)] ∧ NS.all nameS = (NS.drop k).all nameS ∧ Wd Γ (.own (.slice an mn cn) 9 1 (nRows NS) :: .own (.slice ax mx cx) 3 1 (intRows XS) :: .blk b1 (hwC H a1 n1 c1 a2 n2 c2 a3 n3 c3 a4 n4 c4 a5 n5 c5) :: S) w) mn ⟨0, by omega, ⟨rfl, rfl, rfl, rfl, rfl, rfl, trivial⟩, rfl, hw⟩ ?_
  clear hw
  rintro μ ρ w ⟨k, hk, hρ, hal, hw⟩
  rw [hρ.eq]
  repeat (first | refine byW ?_ | (refine byV ?_; intro w hw))
  refine W_cond rfl (fun h => ?_) (fun h => ?_)
  · have hkn : k < mn := by have := of_decide_eq_true h; omega
    clear h
    obtain ⟨x, hx⟩ := get_lt (l := NS) (k := k) (by omega)
    haveI := hsz x (List.mem_of_getElem? hx)
    rw [drop_get hx, List.all_cons] at hal
    repeat (first | refine byW ?_ | (refine byV ?_; intro w hw))
    refine W_cond rfl (fun h => ?_) (fun h => ?_)
    · have h : nameS x = false := by simpa using h
      repeat (first | refine byW ?_ | (refine byV ?_; intro w hw))
      refine ⟨_, rfl, ret_b rfl ?_, hw.ds [0, 0, 0]⟩
      rw [hal, h]; rfl
    · have h : nameS x = true := by simpa using h
      repeat (first | refine byW ?_ | (refine byV ?_; intro w hw))
      refine ⟨μ - 1, by omega, k + 1, by omega, ⟨rfl, rfl, rfl, rfl, rfl, rfl, trivial⟩, ?_, hw⟩
      rw [hal, h, Bool.true_and]
  have hkn : mn ≤ k := by have := of_decide_eq_false h; omega
  clear h
  rw [List.drop_eq_nil_of_le (by omega)] at hal
  have hal : NS.all nameS = true := hal
  rw [hal, Bool.true_and]
  clear hk hρ
  repeat (first | refine byW ?_ | (refine byV ?_; intro w hw))
  refine W_loop (fun μ ρ w => ∃ (k : Nat), μ + k = mx ∧ Has ρ [(1, .pointer (some ⟨b1, 0, none⟩)), (4, .slice ax mx cx), (134, .slice ax mx cx), (135, .int .i64 mx), (136, .int .i64 k)] ∧ XS.all smallB = (XS.drop k).all smallB ∧ Wd Γ (.own (.slice an mn cn) 9 1 (nRows NS) :: .own (.slice ax mx cx) 3 1 (intRows XS) :: .blk b1 (hwC H a1 n1 c1 a2 n2 c2 a3 n3 c3 a4 n4 c4 a5 n5 c5) :: S) w) mx ⟨0, by omega, ⟨rfl, rfl, rfl, rfl, rfl, trivial⟩, rfl, hw⟩ ?_
  clear hw hal
  rintro μ ρ w ⟨k, hk, hρ, hal, hw⟩
  rw [hρ.eq]
  repeat (first | refine byW ?_ | (refine byV ?_; intro w hw))
  refine W_cond rfl (fun h => ?_) (fun h => ?_)
  · have hkn : k < mx := by have := of_decide_eq_true h; omega
    clear h
    obtain ⟨x, hx⟩ := get_lt (l := XS) (k := k) (by omega)
    rw [drop_get hx, List.all_cons] at hal
    repeat (first | refine byW ?_ | (refine byV ?_; intro w hw))
    refine W_cond rfl (fun h => ?_) (fun h => ?_)
    · have h : (decide (x < 0) || decide (2147483647 < x)) = true := h
      have hs : smallB x = false := by
        unfold smallB
        simp only [Bool.or_eq_true, decide_eq_true_eq] at h
        simp only [Bool.and_eq_false_iff, decide_eq_false_iff_not]
        omega
      repeat (first | refine byW ?_ | (refine byV ?_; intro w hw))
      refine ⟨_, rfl, ret_b rfl ?_, hw.ds [0, 0, 0]⟩
      rw [hal, hs]; rfl
    · have h : (decide (x < 0) || decide (2147483647 < x)) = false := h
      have hs : smallB x = true := by
        unfold smallB
        simp only [Bool.or_eq_false_iff, decide_eq_false_iff_not] at h
        simp only [Bool.and_eq_true, decide_eq_true_eq]
        omega
      repeat (first | refine byW ?_ | (refine byV ?_; intro w hw))
      refine ⟨μ - 1, by omega, k + 1, by omega, ⟨rfl, rfl, rfl, rfl, rfl, trivial⟩, ?_, hw⟩
      rw [hal, hs, Bool.true_and]
  have hkn : mx ≤ k := by have := of_decide_eq_false h; omega
  clear h
  rw [List.drop_eq_nil_of_le (by omega)] at hal
  have hal : XS.all smallB = true := hal
  rw [hal, Bool.true_and]
  clear hk hρ
  haveI : SB H.Name := bts_size hm.n
  repeat (first | refine byW ?_ | (refine byV ?_; intro w hw))
  refine ⟨_, rfl, ret_b rfl ?_, hw.ds [0, 0, 0]⟩
  have hd : decide ((H.Name.size : Int) ≤ 24) = decide (H.Name.size ≤ 24) := decide_eq_decide.2 (by omega)
  rw [← hd]
end Go.Proofs.YtimbobmmijgkiaaGreatDoor
end
/- The text that hwdesc.Format writes of a description (printed by a program). -/
section
open Go Mk
namespace Go.Proofs.YtimbobmmijgkiaaGreatDoor
set_option maxHeartbeats 16000000
attribute [local irreducible] Calls

theorem lay_bx : Builder.Extra Tryz.prog lay_join_ren := {
  sizeBuilder := by kernel_rfl
  liesBuilder := by kernel_rfl
  t5 := Tryz.underlying5
  a5 := Tryz.isAgg5
  z5 := Tryz.sizeOf5
  v5 := Tryz.zeroValue5
  infoByte := by kernel_rfl
  cellsByte := by kernel_rfl
  sizeByte := by kernel_rfl
  neB5 := by decide }
def sepB : ByteArray := ⟨#[44, 32]⟩
def joinB (xs : List ByteArray) : ByteArray := ⟨(Lib.join (xs.map (·.data.toList)) sepB.data.toList).toArray⟩
theorem lens_le {c : Nat} (xs : List ByteArray) (h : ∀ x ∈ xs, x.size ≤ c) : Lib.lens (xs.map (·.data.toList)) ≤ xs.length * c := by
  induction xs with
  | nil => simp [Lib.lens]
  | cons x xs ih =>
    have h1 := ih fun y hy => h y (List.mem_cons_of_mem _ hy)
    have h2 := h x List.mem_cons_self
    have h3 : x.data.toList.length = x.size := by simp
    simp only [Lib.lens, List.map_cons, List.sum_cons, List.length_cons] at h1 ⊢
    rw [h3, Nat.add_mul]; omega
theorem join_len {c : Nat} (xs : List ByteArray) (h : ∀ x ∈ xs, x.size ≤ c) : (joinB xs).size ≤ xs.length * (c + 2) := by
  have hs : (joinB xs).size = (Lib.join (xs.map (·.data.toList)) sepB.data.toList).length := by show (List.toArray _).size = _; simp
  rw [hs]
  cases xs with
  | nil => simp [Lib.join]
  | cons x r =>
    have h1 := Lib.join_length x.data.toList (r.map (·.data.toList)) sepB.data.toList
    have h2 := lens_le (x :: r) h
    rw [List.map_cons] at h2 ⊢
    rw [h1, List.length_map, show sepB.data.toList.length = 2 from rfl]
    simp only [List.length_cons, Nat.add_mul, Nat.mul_add] at h2 ⊢
    omega
theorem Join_any {Γ : Gho} [hT : TabG Γ] {S : List Res} {w : World} {v : Value} (xs : List ByteArray) (hr : RdS Γ S v 1 (nRows xs)) (hl : xs.length ≤ 1000) (hsz : ∀ x ∈ xs, x.size ≤ 1000) (hw : Wd Γ S w) :
    Calls Tryz.prog 38 #[v, .string sepB] w fun e w' => e = .returned (.string (joinB xs)) ∧ Wd Γ S w' := by
  obtain ⟨a, n, c, rfl, hn, hnc, hc⟩ := hr.shape
  simp only [List.length_map] at hn
  have hrd := hr.rd hw
  by_cases h0 : xs = []
  · subst h0
    simp only [List.length_nil] at hn
    subst hn
    exact Calls.mono (Any.strings_Join_none lay_join lay_bx a c sepB w) fun e w' ⟨h1, h2⟩ => ⟨h1, by subst h2; exact hw⟩
  · have hpos : 0 < xs.length := List.length_pos_iff.2 h0
    have ha := hrd.at_ (by simpa using hpos)
    have hcell : ∀ (j : Nat) x, xs[j]? = some x → w.cell? ⟨aB a, aO a + j, none⟩ = some (.string x) := fun j x hx => by
      have h1 := hrd.range (j * 1) (.string x) (flatten_get hrd.len (by rw [List.getElem?_map, hx]; rfl) 0 _ rfl)
      rwa [Nat.mul_one] at h1
    have hb : aB a < w.heap.size := by
      obtain ⟨x, hx⟩ := get_lt (l := xs) (k := 0) hpos
      have h1 := hcell 0 x hx
      unfold World.cell? at h1
      by_cases hlt : aB a < w.heap.size
      · exact hlt
      · rw [Array.getElem?_eq_none (show w.heap.size ≤ aB a by omega)] at h1; cases h1
    have hjl := join_len xs hsz
    have hs : (joinB xs).size = (Lib.join (xs.map (·.data.toList)) sepB.data.toList).length := by show (List.toArray _).size = _; simp
    have := Any.strings_Join_48 lay_join lay_bx (aB a) (aO a) c xs sepB w hcell hb (by omega) (by omega) (by rw [← hs]; omega)
    rw [ha, hn]
    exact Calls.mono this fun e w' ⟨h1, h2⟩ => ⟨h1, wd_below hT.dr hw h2⟩
theorem bts_join (xs : List ByteArray) : bts (joinB xs) = Lib.join (xs.map bts) [44, 32] := by unfold joinB; rw [bts_mk]; rfl
theorem join_decs (l : List Int) : bts (joinB (l.map fun n => decB n.toNat)) = decs (l.map Int.toNat) := by
  rw [bts_join]
  cases l with
  | nil => rfl
  | cons x l =>
    rw [List.map_cons, List.map_cons, Lib.join_cons, List.map_cons]
    show bts (decB x.toNat) ++ _ = Lib.decDigits x.toNat ++ decsR (l.map Int.toNat)
    have h0 : bts (decB x.toNat) = Lib.decDigits x.toNat := bts_mk _
    rw [h0]
    congr 1
    unfold Lib.joinTail decsR
    induction l with
    | nil => rfl
    | cons y l ih =>
      simp only [List.map_cons, List.flatten_cons, List.flatMap_cons]
      rw [ih]
      have h1 : bts (decB y.toNat) = Lib.decDigits y.toNat := bts_mk _
      rw [h1]; rfl
theorem nDigits_le : ∀ (k u : Nat), u < 10 ^ (k + 1) → Lib.nDigits u ≤ k + 1
  | 0, u, h => by rw [Lib.nDigits_small (by simpa using h)]; exact Nat.le_refl _
  | k + 1, u, h => by
    by_cases hu : u < 10
    · rw [Lib.nDigits_small hu]; omega
    · rw [Lib.nDigits_big hu]
      have := nDigits_le k (u / 10) (by rw [Nat.div_lt_iff_lt_mul (by decide)]; rw [Nat.pow_succ] at h; exact h)
      omega
theorem decB_len {u : Nat} (h : u ≤ 18446744073709551615) : (decB u).size ≤ 20 := by
  have hs : (decB u).size = (Lib.decDigits u).length := by show (List.toArray _).size = _; simp
  rw [hs, Lib.decDigits_length]
  exact nDigits_le 19 u (by omega)
def pairsL : List ByteArray → List UInt8
  | a :: v :: r => 32 :: (bts a ++ 32 :: (bts v ++ 59 :: pairsL r))
  | _ => []
def itemL (hd : ByteArray) (xs : List ByteArray) : List UInt8 := 9 :: (bts hd ++ (32 :: 123 :: (pairsL xs ++ [32, 125, 10])))
theorem pairsL_len : ∀ (xs : List ByteArray), (∀ s ∈ xs, s.size ≤ 1000) → (pairsL xs).length ≤ xs.length * 1003
  | [], _ => by simp [pairsL]
  | [x], _ => by simp [pairsL]
  | x :: y :: r, h => by
    have h1 := pairsL_len r fun s hs => h s (by simp [hs])
    have h2 := h x (by simp)
    have h3 := h y (by simp)
    have e1 : (bts x).length = x.size := bts_len _
    have e2 : (bts y).length = y.size := bts_len _
    unfold pairsL
    simp only [List.length_cons, List.length_append, e1, e2, Nat.add_mul] at h1 ⊢
    omega
theorem even_two {xs : List ByteArray} {k m j : Nat} (h : xs.length = 2 * m) (hk : k = 2 * j) (hl : k < xs.length) : ∃ x y, xs[k]? = some x ∧ xs[k + 1]? = some y ∧ xs.drop k = x :: y :: xs.drop (k + 2) := by
  have h1 : k + 1 < xs.length := by omega
  refine ⟨xs[k], xs[k + 1], List.getElem?_eq_getElem hl, List.getElem?_eq_getElem h1, ?_⟩
  rw [List.drop_eq_getElem_cons hl, List.drop_eq_getElem_cons h1]
theorem itemF_any {Γ : Gho} {S : List Res} {w : World} {v : Value} {b m : Nat} {l : List UInt8} (hd : ByteArray) (xs : List ByteArray) (hh : hd.size ≤ 1000) (hx : ∀ s ∈ xs, s.size ≤ 1000) (hlen : xs.length = 2 * m) (hm : m ≤ 10) (hr : RdS Γ S v 1 (nRows xs)) (hl : l.length ≤ 50000000) (hw : Wd Γ (bldR b l :: S) w) :
    Calls Tryz.prog 34 #[.string hd, v, .pointer (some ⟨b, 0, none⟩)] w fun e w' => e = .returned (.tuple #[]) ∧ Wd Γ (bldR b (l ++ itemL hd xs) :: S) w' := by
  obtain ⟨a, n, c, rfl, hn, hnc, hc⟩ := hr.shape
  simp only [List.length_map] at hn
  have hpl := pairsL_len xs hx
  refine calls_of_W Tryz.func34 rfl rfl ?_
  have z1 : (⟨#[9]⟩ : ByteArray).size = 1 := rfl
  have z2 : (⟨#[32, 123]⟩ : ByteArray).size = 2 := rfl
  have z3 : (⟨#[32, 125, 10]⟩ : ByteArray).size = 3 := rfl
  have z4 : (⟨#[32]⟩ : ByteArray).size = 1 := rfl
  have z5 : (⟨#[59]⟩ : ByteArray).size = 1 := rfl
  repeat (first | refine byW ?_ | (refine byV ?_; intro w hw))
  refine lY (v := .string ((⟨#[9]⟩ : ByteArray) ++ hd ++ (⟨#[32, 123]⟩ : ByteArray))) ?_ (hy := y_addS rfl rfl (by rw [ByteArray.size_append]; omega))
  repeat (first | refine byW ?_ | (refine byV ?_; intro w hw))
  refine lCall ?_
  refine (WriteString_any _ (by simp only [ByteArray.size_append]; omega) hw).mono ?_
  clear hw
  rintro e w ⟨rfl, hw⟩
  refine ⟨_, rfl, ?_⟩
  have e0 : ((⟨#[9]⟩ : ByteArray) ++ hd ++ (⟨#[32, 123]⟩ : ByteArray)).data.toList = 9 :: (bts hd ++ [32, 123]) := by
    show bts ((⟨#[9]⟩ : ByteArray) ++ hd ++ (⟨#[32, 123]⟩ : ByteArray)) = _
    rw [bts_ap, bts_ap]; rfl
  rw [e0] at hw
  repeat (first | refine byW ?_ | (refine byV ?_; intro w hw))
  refine W_loop (fun μ ρ w => ∃ (k j : Nat) (pre : List UInt8), μ + k = n ∧ k = 2 * j ∧ Has ρ [(1, .slice a n c), (2, .pointer (some ⟨b, 0, none⟩)), (5, .int .i64 k)] ∧ pre ++ pairsL (xs.drop k) = pairsL xs ∧ Wd Γ (bldR b (l ++ 9 :: (bts hd ++ [32, 123]) ++ pre) :: S) w) n ⟨0, 0, [], by omega, by omega, ⟨rfl, rfl, rfl, trivial⟩, by simp, by rw [List.append_nil]; exact hw⟩ ?_
  clear hw
  rintro μ ρ w ⟨k, j, pre, hk, hj, hρ, hpre, hw⟩
  rw [hρ.eq]
  have hpl2 : pre.length ≤ (pairsL xs).length := by rw [← hpre, List.length_append]; omega
  have hhl : (bts hd).length = hd.size := bts_len _
  repeat (first | refine byW ?_ | (refine byV ?_; intro w hw))
  refine W_cond rfl (fun h => ?_) (fun h => ?_)
  · have hkn : k < n := by have := of_decide_eq_true h; omega
    obtain ⟨x, y, hx1, hx2, hx3⟩ := even_two hlen hj (by omega)
    have hkn2 : k + 1 < n := by have := (List.getElem?_eq_some_iff.1 hx2).1; omega
    have hxs := hx x (List.mem_of_getElem? hx1)
    have hys := hx y (List.mem_of_getElem? hx2)
    have hrd := hr
    repeat (first | refine byW ?_ | (refine byV ?_; intro w hw))
    refine W_mix1 S [bldR b (l ++ 9 :: (bts hd ++ [32, 123]) ++ pre)] [[],[],[],[],[],[],[],[],[],[],[],[],[],[0]] [[],[],[],[],[],[],[],[],[],[],[],[],[],[0]] (hw.perm (List.perm_append_comm (l₁ := [_]))) ?_
    repeat (first | refine mY ?_ | refine mP ?_ | refine mPg ?_)
    refine mY (v := .string ((⟨#[32]⟩ : ByteArray) ++ x ++ (⟨#[32]⟩ : ByteArray))) ?_ (hy := fun Y w g hw => y_addS rfl rfl (by rw [ByteArray.size_append]; omega))
    repeat (first | refine mY ?_ | refine mP ?_ | refine mPg ?_)
    refine mY (v := .string ((⟨#[32]⟩ : ByteArray) ++ x ++ (⟨#[32]⟩ : ByteArray) ++ y)) ?_ (hy := fun Y w g hw => y_addS rfl rfl (by simp only [ByteArray.size_append]; omega))
    refine mY (v := .string ((⟨#[32]⟩ : ByteArray) ++ x ++ (⟨#[32]⟩ : ByteArray) ++ y ++ (⟨#[59]⟩ : ByteArray))) ?_ (hy := fun Y w g hw => y_addS rfl rfl (by simp only [ByteArray.size_append]; omega))
    refine mCallS (c := 0) (v := .tuple #[.int .i64 ((⟨#[32]⟩ : ByteArray) ++ x ++ (⟨#[32]⟩ : ByteArray) ++ y ++ (⟨#[59]⟩ : ByteArray)).size, .nilIface]) (vs := [.pointer (some ⟨b, 0, none⟩), .string ((⟨#[32]⟩ : ByteArray) ++ x ++ (⟨#[32]⟩ : ByteArray) ++ y ++ (⟨#[59]⟩ : ByteArray))]) [bldR b ((l ++ 9 :: (bts hd ++ [32, 123]) ++ pre) ++ ((⟨#[32]⟩ : ByteArray) ++ x ++ (⟨#[32]⟩ : ByteArray) ++ y ++ (⟨#[59]⟩ : ByteArray)).data.toList)] (fun R w hw => WriteString_any _ (by simp only [ByteArray.size_append, List.length_append, List.length_cons, List.length_nil]; omega) hw) ?_
    refine mEnd fun w g hw => ?_
    have hw : Wd Γ (S ++ ([bldR b ((l ++ 9 :: (bts hd ++ [32, 123]) ++ pre) ++ ((⟨#[32]⟩ : ByteArray) ++ x ++ (⟨#[32]⟩ : ByteArray) ++ y ++ (⟨#[59]⟩ : ByteArray)).data.toList)] ++ [])) w := hw
    rw [List.append_nil] at hw
    have hw := hw.perm (S' := _ :: S) (List.perm_append_comm (l₂ := [_]))
    have e1 : ((⟨#[32]⟩ : ByteArray) ++ x ++ (⟨#[32]⟩ : ByteArray) ++ y ++ (⟨#[59]⟩ : ByteArray)).data.toList = 32 :: (bts x ++ 32 :: (bts y ++ [59])) := by
      show bts ((⟨#[32]⟩ : ByteArray) ++ x ++ (⟨#[32]⟩ : ByteArray) ++ y ++ (⟨#[59]⟩ : ByteArray)) = _
      simp only [bts_ap]
      show (([32] ++ bts x) ++ [32] ++ bts y) ++ [59] = _
      simp
    rw [e1] at hw
    repeat (first | refine byW ?_ | (refine byV ?_; intro w hw))
    refine ⟨μ - 2, by omega, k + 2, j + 1, pre ++ 32 :: (bts x ++ 32 :: (bts y ++ [59])), by omega, by omega, ⟨rfl, rfl, rfl, trivial⟩, ?_, by rw [← List.append_assoc]; exact hw⟩
    rw [← hpre, hx3]
    show _ = pre ++ (32 :: (bts x ++ 32 :: (bts y ++ 59 :: pairsL (xs.drop (k + 2)))))
    simp
  · have hkn : n ≤ k := by have := of_decide_eq_false h; omega
    rw [List.drop_eq_nil_of_le (by omega)] at hpre
    have hpre : pre = pairsL xs := by rw [← hpre]; show pre = pre ++ []; rw [List.append_nil]
    subst hpre
    repeat (first | refine byW ?_ | (refine byV ?_; intro w hw))
    refine lCall ?_
    refine (WriteString_any _ (by simp only [List.length_append, List.length_cons, List.length_nil]; omega) hw).mono ?_
    clear hw
    rintro e w ⟨rfl, hw⟩
    refine ⟨_, rfl, ?_⟩
    repeat (first | refine byW ?_ | (refine byV ?_; intro w hw))
    refine ⟨_, rfl, rfl, ?_⟩
    have hE : l ++ itemL hd xs = l ++ 9 :: (bts hd ++ [32, 123]) ++ pairsL xs ++ (⟨#[32, 125, 10]⟩ : ByteArray).data.toList := by
      unfold itemL
      show _ = l ++ 9 :: (bts hd ++ [32, 123]) ++ pairsL xs ++ [32, 125, 10]
      simp
    rw [hE]; exact hw

theorem pg_u {Γ : Gho} [hT : TabG Γ] {n : Int} (h0 : 0 ≤ n) (h1 : n ≤ 18446744073709551615) : PG Tryz.prog Γ 36 [.int .u64 n] (.string (decB n.toNat)) := ⟨fun S w hw => by
  have hF := pg_fmtUint (Γ := Γ) (u := n.toNat) (by omega)
  rw [show ((n.toNat : Nat) : Int) = n by omega] at hF
  refine calls_of_W Tryz.func36 rfl rfl ?_
  repeat (first | refine byW ?_ | (refine byV ?_; intro w hw))
  exact ⟨_, rfl, rfl, hw⟩⟩
/-- The fields that are not signed. -/
structure HwWide (H : HwT) : Prop where
  h : ∀ x ∈ H.Caches, wideI x.Size
  m : ∀ x ∈ H.Mems, wideI x.Base ∧ wideI x.Size
  d : ∀ x ∈ H.Devs, wideI x.Base ∧ wideI x.Size
theorem smallB_iff {n : Int} : smallB n = true ↔ smallI n := by unfold smallB smallI; simp
theorem printB_iff {H : HwT} (hw : HwWide H) : printB H = true ↔ PrintP H := by
  unfold printB PrintP
  simp only [Bool.and_eq_true, List.all_eq_true, decide_eq_true_eq]
  constructor
  · rintro ⟨⟨h1, h2, h3⟩, h4, h5⟩
    have h3' : ∀ v ∈ xsE H, smallI v := fun v hv => smallB_iff.1 (h3 v hv)
    refine ⟨h4, h5, fun x hx => ?_⟩
    unfold entsOf at hx
    simp only [List.mem_append, List.mem_map] at hx
    rcases hx with ⟨c, hc, rfl⟩ | ⟨c, hc, rfl⟩ | ⟨c, hc, rfl⟩ | ⟨c, hc, rfl⟩ | ⟨c, hc, rfl⟩
    · have g : ∀ v ∈ coreN c, smallI v := fun v hv => h3' v (by simp only [List.mem_append]; exact .inl (.inl (.inl (.inl (List.mem_flatMap.2 ⟨c, hc, hv⟩)))))
      exact ⟨g _ (by simp [coreN]), g _ (by simp [coreN]), g _ (by simp [coreN]), g _ (by simp [coreN])⟩
    · have g : ∀ v ∈ cacheN c, smallI v := fun v hv => h3' v (by simp only [List.mem_append]; exact .inl (.inl (.inl (.inr (List.mem_flatMap.2 ⟨c, hc, hv⟩)))))
      have hn := h2 c.Name (by simp only [List.mem_append]; exact .inl (.inl (List.mem_map.2 ⟨c, hc, rfl⟩)))
      exact ⟨hn, g _ (by simp [cacheN]), g _ (by simp [cacheN]), hw.h c hc, fun q => h1 c hc (by rw [q]; rfl), fun v hv => g v (by simp [cacheN, hv])⟩
    · have g : ∀ v ∈ linkN c, smallI v := fun v hv => h3' v (by simp only [List.mem_append]; exact .inl (.inl (.inr (List.mem_flatMap.2 ⟨c, hc, hv⟩))))
      exact ⟨g _ (by simp [linkN]), g _ (by simp [linkN]), g _ (by simp [linkN])⟩
    · have g : ∀ v ∈ memN c, smallI v := fun v hv => h3' v (by simp only [List.mem_append]; exact .inl (.inr (List.mem_flatMap.2 ⟨c, hc, hv⟩)))
      have hn := h2 c.Name (by simp only [List.mem_append]; exact .inl (.inr (List.mem_map.2 ⟨c, hc, rfl⟩)))
      exact ⟨hn, (hw.m c hc).1, (hw.m c hc).2, g _ (by simp [memN]), g _ (by simp [memN])⟩
    · have g : ∀ v ∈ devNs c, smallI v := fun v hv => h3' v (by simp only [List.mem_append]; exact .inr (List.mem_flatMap.2 ⟨c, hc, hv⟩))
      have hn := h2 c.Name (by simp only [List.mem_append]; exact .inr (List.mem_map.2 ⟨c, hc, rfl⟩))
      exact ⟨hn, g _ (by simp [devNs]), g _ (by simp [devNs]), (hw.d c hc).1, (hw.d c hc).2⟩
  · rintro ⟨h4, h5, h⟩
    have hc : ∀ c ∈ H.Cores, (Ent.core c).ok := fun c hc => h _ (by unfold entsOf; simp [hc])
    have hh : ∀ c ∈ H.Caches, (Ent.cache c).ok := fun c hc => h _ (by unfold entsOf; simp [hc])
    have hl : ∀ c ∈ H.Links, (Ent.link c).ok := fun c hc => h _ (by unfold entsOf; simp [hc])
    have hm : ∀ c ∈ H.Mems, (Ent.mem c).ok := fun c hc => h _ (by unfold entsOf; simp [hc])
    have hd : ∀ c ∈ H.Devs, (Ent.dev c).ok := fun c hc => h _ (by unfold entsOf; simp [hc])
    refine ⟨⟨fun c hcc q => (hh c hcc).2.2.2.2.1 (List.eq_nil_of_length_eq_zero q), fun s hs => ?_, fun v hv => smallB_iff.2 ?_⟩, h4, h5⟩
    · simp only [List.mem_append, List.mem_map] at hs
      rcases hs with (⟨c, hc', rfl⟩ | ⟨c, hc', rfl⟩) | ⟨c, hc', rfl⟩
      · exact (hh c hc').1
      · exact (hm c hc').1
      · exact (hd c hc').1
    · simp only [List.mem_append, List.mem_flatMap] at hv
      rcases hv with (((⟨c, hc', hv⟩ | ⟨c, hc', hv⟩) | ⟨c, hc', hv⟩) | ⟨c, hc', hv⟩) | ⟨c, hc', hv⟩
      · obtain ⟨q1, q2, q3, q4⟩ := hc c hc'
        simp only [coreN, List.mem_cons, List.not_mem_nil, or_false] at hv
        rcases hv with rfl | rfl | rfl | rfl <;> assumption
      · obtain ⟨q1, q2, q3, q4, q5, q6⟩ := hh c hc'
        simp only [cacheN, List.mem_append, List.mem_cons, List.not_mem_nil, or_false] at hv
        rcases hv with (rfl | rfl) | hv
        · assumption
        · assumption
        · exact q6 v hv
      · obtain ⟨q1, q2, q3⟩ := hl c hc'
        simp only [linkN, List.mem_cons, List.not_mem_nil, or_false] at hv
        rcases hv with rfl | rfl | rfl <;> assumption
      · obtain ⟨q1, q2, q3, q4, q5⟩ := hm c hc'
        simp only [memN, List.mem_cons, List.not_mem_nil, or_false] at hv
        rcases hv with rfl | rfl <;> assumption
      · obtain ⟨q1, q2, q3, q4, q5⟩ := hd c hc'
        simp only [devNs, List.mem_cons, List.not_mem_nil, or_false] at hv
        rcases hv with rfl | rfl <;> assumption
def formatS (H : HwT) : ByteArray := if printB H = true then mkB (formatL H) else ⟨#[]⟩
theorem bts_dec (u : Nat) : bts (decB u) = Lib.decDigits u := bts_mk _
abbrev coreHd (c : CoreT) : ByteArray := (⟨#[99, 111, 114, 101, 32]⟩ : ByteArray) ++ decB c.ID.toNat
abbrev coreXs (c : CoreT) : List ByteArray := [widthB, decB c.Width.toNat, nodeB, decB c.Node.toNat, speedB, decB c.Speed.toNat]
abbrev cacheHd (c : CacheT) : ByteArray := (⟨#[99, 97, 99, 104, 101, 32]⟩ : ByteArray) ++ c.Name
abbrev cacheXs (c : CacheT) : List ByteArray := [levelB, decB c.Level.toNat, lineB, decB c.Line.toNat, sizeB, decB c.Size.toNat, coresB, joinB (c.Cores.map fun n => decB n.toNat)]
abbrev linkHd (c : LinkT) : ByteArray := (⟨#[108, 105, 110, 107, 32]⟩ : ByteArray) ++ decB c.A.toNat ++ (⟨#[32]⟩ : ByteArray) ++ decB c.B.toNat
abbrev linkXs (c : LinkT) : List ByteArray := [latencyB, decB c.Latency.toNat]
abbrev memHd (c : MemT) : ByteArray := (⟨#[109, 101, 109, 111, 114, 121, 32]⟩ : ByteArray) ++ c.Name
abbrev memXs (c : MemT) : List ByteArray := [baseB, decB c.Base.toNat, sizeB, decB c.Size.toNat, nodeB, decB c.Node.toNat, latencyB, decB c.Latency.toNat]
abbrev devHd (c : DevT) : ByteArray := (⟨#[100, 101, 118, 105, 99, 101, 32]⟩ : ByteArray) ++ c.Name
abbrev devXs (c : DevT) : List ByteArray := [nodeB, decB c.Node.toNat, irqB, decB c.IRQ.toNat, baseB, decB c.Base.toNat, sizeB, decB c.Size.toNat]
theorem decs1 (u : Nat) : decs [u] = Lib.decDigits u := by show _ ++ [] = _; rw [List.append_nil]
theorem core_txt (c : CoreT) : (Ent.core c).item.txt = itemL (coreHd c) (coreXs c) := by
  unfold itemL Item.txt coreHd coreXs
  rw [bts_ap, bts_dec]
  simp only [Ent.item, pairsL, List.flatMap_cons, List.flatMap_nil, attrL, HArg.txt, decs1, bts_dec, List.append_nil, List.append_assoc, List.cons_append, List.nil_append]
  rfl
theorem cache_txt (c : CacheT) : (Ent.cache c).item.txt = itemL (cacheHd c) (cacheXs c) := by
  unfold itemL Item.txt cacheHd cacheXs
  rw [bts_ap]
  simp only [Ent.item, pairsL, List.flatMap_cons, List.flatMap_nil, attrL, HArg.txt, decs1, bts_dec, join_decs, List.append_nil, List.append_assoc, List.cons_append, List.nil_append]
  rfl
theorem link_txt (c : LinkT) : (Ent.link c).item.txt = itemL (linkHd c) (linkXs c) := by
  unfold itemL Item.txt linkHd linkXs
  rw [bts_ap, bts_ap, bts_ap, bts_dec, bts_dec]
  simp only [Ent.item, pairsL, List.flatMap_cons, List.flatMap_nil, attrL, HArg.txt, decs1, bts_dec, List.append_nil, List.append_assoc, List.cons_append, List.nil_append]
  rfl
theorem mem_txt (c : MemT) : (Ent.mem c).item.txt = itemL (memHd c) (memXs c) := by
  unfold itemL Item.txt memHd memXs
  rw [bts_ap]
  simp only [Ent.item, pairsL, List.flatMap_cons, List.flatMap_nil, attrL, HArg.txt, decs1, bts_dec, List.append_nil, List.append_assoc, List.cons_append, List.nil_append]
  rfl
theorem dev_txt (c : DevT) : (Ent.dev c).item.txt = itemL (devHd c) (devXs c) := by
  unfold itemL Item.txt devHd devXs
  rw [bts_ap]
  simp only [Ent.item, pairsL, List.flatMap_cons, List.flatMap_nil, attrL, HArg.txt, decs1, bts_dec, List.append_nil, List.append_assoc, List.cons_append, List.nil_append]
  rfl
end Go.Proofs.YtimbobmmijgkiaaGreatDoor
end
/- Given descriptions and lists of numbers, as the walks read them. -/
section
open Go Mk
namespace Go.Proofs.YtimbobmmijgkiaaGreatDoor
open Go.ChangeShapes Go.WideShapes Go.ChangeAt Go.RowKit
section
variable {H : Type} {en : TypeId × Value → H} {W W' : World} {base : Nat} {sp : Nat → Bool} {held : Bool} {S : List Res}
def okI (n : Int) : Prop := -9223372036854775808 ≤ n ∧ n ≤ 9223372036854775807
theorem list4 : ∀ cs : List Value, cs.length = 4 → ∃ a b c d, cs = [a, b, c, d]
  | [a, b, c, d], _ => ⟨a, b, c, d, rfl⟩
theorem list5 : ∀ cs : List Value, cs.length = 5 → ∃ a b c d e, cs = [a, b, c, d, e]
  | [a, b, c, d, e], _ => ⟨a, b, c, d, e, rfl⟩
theorem list6 : ∀ cs : List Value, cs.length = 6 → ∃ a b c d e f, cs = [a, b, c, d, e, f]
  | [a, b, c, d, e, f], _ => ⟨a, b, c, d, e, f, rfl⟩
theorem read_i {n : Nat} {cs : List Value} {y : DataW H × List MemPlace} (h : DataW.trod en Tryz.prog W base sp held n 3 cs = some y) : ∃ x : Int, cs = [.int .i64 x] ∧ okI x := by
  obtain ⟨a, ha, -, hw⟩ := DataW.trod_int Tryz.underlying3 h
  subst ha
  refine ⟨a, rfl, ?_⟩
  simp only [Lit.wf, IntKind.min, IntKind.max, IntKind.bits, IntKind.signed] at hw
  simpa [okI] using hw
theorem read_u {n : Nat} {cs : List Value} {y : DataW H × List MemPlace} (h : DataW.trod en Tryz.prog W base sp held n 45 cs = some y) : ∃ x : Int, cs = [.int .u64 x] ∧ wideI x := by
  obtain ⟨a, ha, -, hw⟩ := DataW.trod_int Tryz.underlying45 h
  subst ha
  refine ⟨a, rfl, ?_⟩
  simp only [Lit.wf, IntKind.min, IntKind.max, IntKind.bits, IntKind.signed] at hw
  simpa [wideI] using hw
theorem read_s {n : Nat} {cs : List Value} {y : DataW H × List MemPlace} (h : DataW.trod en Tryz.prog W base sp held n 9 cs = some y) : ∃ x : ByteArray, cs = [.string x] := by
  obtain ⟨s, hs, -, -⟩ := DataW.trod_string Tryz.underlying9 h
  exact ⟨s, hs⟩
theorem read_ints {n : Nat} {v : Value} {y : DataW H × List MemPlace} (h : DataW.trod en Tryz.prog W base sp held n 43 [v] = some y) : ∃ xs : List Int, RepS (allG0 W) v 1 (intRows xs) ∧ ∀ x ∈ xs, okI x :=
  read_slice (F := fun x : Int => [.int .i64 x]) (sz := 1) (e := 3) (by kernel_rfl) (by decide) (fun x => rfl) Tryz.underlying43 (fun h => read_i h) h
theorem read_core {n : Nat} {cs : List Value} {y : DataW H × List MemPlace} (h : DataW.trod en Tryz.prog W base sp held n 77 cs = some y) : ∃ x : CoreT, cs = enc x ∧ (okI x.ID ∧ okI x.Width ∧ okI x.Node ∧ okI x.Speed) := by
  obtain ⟨xs, k, -, -, hl, hxl, hf⟩ := DataW.trod_struct Tryz.underlying77 h
  have hl : cs.length = 4 := hl.trans (by kernel_rfl)
  obtain ⟨c0, c1, c2, c3, rfl⟩ := list4 cs hl
  have hxl : xs.length = 4 := hxl
  have e0 : Tryz.prog.cellsOf 3 = 1 := by kernel_rfl
  have g0 : DataW.trod en Tryz.prog W base sp held k 3 (([c0, c1, c2, c3].drop 0).take (Tryz.prog.cellsOf 3)) = xs[0]? := hf 0 { name := "ID", type := 3, offset := 0, embedded := false, tag := "", pkgPath := "", byteOffset := 0 } rfl
  rw [e0, List.getElem?_eq_getElem (by omega)] at g0
  have e1 : Tryz.prog.cellsOf 3 = 1 := by kernel_rfl
  have g1 : DataW.trod en Tryz.prog W base sp held k 3 (([c0, c1, c2, c3].drop 1).take (Tryz.prog.cellsOf 3)) = xs[1]? := hf 1 { name := "Width", type := 3, offset := 1, embedded := false, tag := "", pkgPath := "", byteOffset := 8 } rfl
  rw [e1, List.getElem?_eq_getElem (by omega)] at g1
  have e2 : Tryz.prog.cellsOf 3 = 1 := by kernel_rfl
  have g2 : DataW.trod en Tryz.prog W base sp held k 3 (([c0, c1, c2, c3].drop 2).take (Tryz.prog.cellsOf 3)) = xs[2]? := hf 2 { name := "Node", type := 3, offset := 2, embedded := false, tag := "", pkgPath := "", byteOffset := 16 } rfl
  rw [e2, List.getElem?_eq_getElem (by omega)] at g2
  have e3 : Tryz.prog.cellsOf 3 = 1 := by kernel_rfl
  have g3 : DataW.trod en Tryz.prog W base sp held k 3 (([c0, c1, c2, c3].drop 3).take (Tryz.prog.cellsOf 3)) = xs[3]? := hf 3 { name := "Speed", type := 3, offset := 3, embedded := false, tag := "", pkgPath := "", byteOffset := 24 } rfl
  rw [e3, List.getElem?_eq_getElem (by omega)] at g3
  obtain ⟨x0, h0, i0⟩ := read_i g0
  obtain ⟨x1, h1, i1⟩ := read_i g1
  obtain ⟨x2, h2, i2⟩ := read_i g2
  obtain ⟨x3, h3, i3⟩ := read_i g3
  simp only [List.drop_zero, List.take_succ_cons, List.take_zero, List.drop_succ_cons, List.cons.injEq, and_true] at h0
  subst h0
  simp only [List.drop_zero, List.take_succ_cons, List.take_zero, List.drop_succ_cons, List.cons.injEq, and_true] at h1
  subst h1
  simp only [List.drop_zero, List.take_succ_cons, List.take_zero, List.drop_succ_cons, List.cons.injEq, and_true] at h2
  subst h2
  simp only [List.drop_zero, List.take_succ_cons, List.take_zero, List.drop_succ_cons, List.cons.injEq, and_true] at h3
  subst h3
  exact ⟨⟨x0, x1, x2, x3⟩, rfl, i0, i1, i2, i3⟩
theorem read_link {n : Nat} {cs : List Value} {y : DataW H × List MemPlace} (h : DataW.trod en Tryz.prog W base sp held n 82 cs = some y) : ∃ x : LinkT, cs = enc x ∧ (okI x.A ∧ okI x.B ∧ okI x.Latency) := by
  obtain ⟨xs, k, -, -, hl, hxl, hf⟩ := DataW.trod_struct Tryz.underlying82 h
  have hl : cs.length = 3 := hl.trans (by kernel_rfl)
  obtain ⟨c0, c1, c2, rfl⟩ := list3 cs hl
  have hxl : xs.length = 3 := hxl
  have e0 : Tryz.prog.cellsOf 3 = 1 := by kernel_rfl
  have g0 : DataW.trod en Tryz.prog W base sp held k 3 (([c0, c1, c2].drop 0).take (Tryz.prog.cellsOf 3)) = xs[0]? := hf 0 { name := "A", type := 3, offset := 0, embedded := false, tag := "", pkgPath := "", byteOffset := 0 } rfl
  rw [e0, List.getElem?_eq_getElem (by omega)] at g0
  have e1 : Tryz.prog.cellsOf 3 = 1 := by kernel_rfl
  have g1 : DataW.trod en Tryz.prog W base sp held k 3 (([c0, c1, c2].drop 1).take (Tryz.prog.cellsOf 3)) = xs[1]? := hf 1 { name := "B", type := 3, offset := 1, embedded := false, tag := "", pkgPath := "", byteOffset := 8 } rfl
  rw [e1, List.getElem?_eq_getElem (by omega)] at g1
  have e2 : Tryz.prog.cellsOf 3 = 1 := by kernel_rfl
  have g2 : DataW.trod en Tryz.prog W base sp held k 3 (([c0, c1, c2].drop 2).take (Tryz.prog.cellsOf 3)) = xs[2]? := hf 2 { name := "Latency", type := 3, offset := 2, embedded := false, tag := "", pkgPath := "", byteOffset := 16 } rfl
  rw [e2, List.getElem?_eq_getElem (by omega)] at g2
  obtain ⟨x0, h0, i0⟩ := read_i g0
  obtain ⟨x1, h1, i1⟩ := read_i g1
  obtain ⟨x2, h2, i2⟩ := read_i g2
  simp only [List.drop_zero, List.take_succ_cons, List.take_zero, List.drop_succ_cons, List.cons.injEq, and_true] at h0
  subst h0
  simp only [List.drop_zero, List.take_succ_cons, List.take_zero, List.drop_succ_cons, List.cons.injEq, and_true] at h1
  subst h1
  simp only [List.drop_zero, List.take_succ_cons, List.take_zero, List.drop_succ_cons, List.cons.injEq, and_true] at h2
  subst h2
  exact ⟨⟨x0, x1, x2⟩, rfl, i0, i1, i2⟩
theorem read_mem {n : Nat} {cs : List Value} {y : DataW H × List MemPlace} (h : DataW.trod en Tryz.prog W base sp held n 47 cs = some y) : ∃ x : MemT, cs = enc x ∧ (wideI x.Base ∧ wideI x.Size ∧ okI x.Node ∧ okI x.Latency) := by
  obtain ⟨xs, k, -, -, hl, hxl, hf⟩ := DataW.trod_struct Tryz.underlying47 h
  have hl : cs.length = 5 := hl.trans (by kernel_rfl)
  obtain ⟨c0, c1, c2, c3, c4, rfl⟩ := list5 cs hl
  have hxl : xs.length = 5 := hxl
  have e0 : Tryz.prog.cellsOf 9 = 1 := by kernel_rfl
  have g0 : DataW.trod en Tryz.prog W base sp held k 9 (([c0, c1, c2, c3, c4].drop 0).take (Tryz.prog.cellsOf 9)) = xs[0]? := hf 0 { name := "Name", type := 9, offset := 0, embedded := false, tag := "", pkgPath := "", byteOffset := 0 } rfl
  rw [e0, List.getElem?_eq_getElem (by omega)] at g0
  have e1 : Tryz.prog.cellsOf 45 = 1 := by kernel_rfl
  have g1 : DataW.trod en Tryz.prog W base sp held k 45 (([c0, c1, c2, c3, c4].drop 1).take (Tryz.prog.cellsOf 45)) = xs[1]? := hf 1 { name := "Base", type := 45, offset := 1, embedded := false, tag := "", pkgPath := "", byteOffset := 16 } rfl
  rw [e1, List.getElem?_eq_getElem (by omega)] at g1
  have e2 : Tryz.prog.cellsOf 45 = 1 := by kernel_rfl
  have g2 : DataW.trod en Tryz.prog W base sp held k 45 (([c0, c1, c2, c3, c4].drop 2).take (Tryz.prog.cellsOf 45)) = xs[2]? := hf 2 { name := "Size", type := 45, offset := 2, embedded := false, tag := "", pkgPath := "", byteOffset := 24 } rfl
  rw [e2, List.getElem?_eq_getElem (by omega)] at g2
  have e3 : Tryz.prog.cellsOf 3 = 1 := by kernel_rfl
  have g3 : DataW.trod en Tryz.prog W base sp held k 3 (([c0, c1, c2, c3, c4].drop 3).take (Tryz.prog.cellsOf 3)) = xs[3]? := hf 3 { name := "Node", type := 3, offset := 3, embedded := false, tag := "", pkgPath := "", byteOffset := 32 } rfl
  rw [e3, List.getElem?_eq_getElem (by omega)] at g3
  have e4 : Tryz.prog.cellsOf 3 = 1 := by kernel_rfl
  have g4 : DataW.trod en Tryz.prog W base sp held k 3 (([c0, c1, c2, c3, c4].drop 4).take (Tryz.prog.cellsOf 3)) = xs[4]? := hf 4 { name := "Latency", type := 3, offset := 4, embedded := false, tag := "", pkgPath := "", byteOffset := 40 } rfl
  rw [e4, List.getElem?_eq_getElem (by omega)] at g4
  obtain ⟨x0, h0⟩ := read_s g0
  obtain ⟨x1, h1, i1⟩ := read_u g1
  obtain ⟨x2, h2, i2⟩ := read_u g2
  obtain ⟨x3, h3, i3⟩ := read_i g3
  obtain ⟨x4, h4, i4⟩ := read_i g4
  simp only [List.drop_zero, List.take_succ_cons, List.take_zero, List.drop_succ_cons, List.cons.injEq, and_true] at h0
  subst h0
  simp only [List.drop_zero, List.take_succ_cons, List.take_zero, List.drop_succ_cons, List.cons.injEq, and_true] at h1
  subst h1
  simp only [List.drop_zero, List.take_succ_cons, List.take_zero, List.drop_succ_cons, List.cons.injEq, and_true] at h2
  subst h2
  simp only [List.drop_zero, List.take_succ_cons, List.take_zero, List.drop_succ_cons, List.cons.injEq, and_true] at h3
  subst h3
  simp only [List.drop_zero, List.take_succ_cons, List.take_zero, List.drop_succ_cons, List.cons.injEq, and_true] at h4
  subst h4
  exact ⟨⟨x0, x1, x2, x3, x4⟩, rfl, i1, i2, i3, i4⟩
theorem read_dev {n : Nat} {cs : List Value} {y : DataW H × List MemPlace} (h : DataW.trod en Tryz.prog W base sp held n 84 cs = some y) : ∃ x : DevT, cs = enc x ∧ (okI x.Node ∧ okI x.IRQ ∧ wideI x.Base ∧ wideI x.Size) := by
  obtain ⟨xs, k, -, -, hl, hxl, hf⟩ := DataW.trod_struct Tryz.underlying84 h
  have hl : cs.length = 5 := hl.trans (by kernel_rfl)
  obtain ⟨c0, c1, c2, c3, c4, rfl⟩ := list5 cs hl
  have hxl : xs.length = 5 := hxl
  have e0 : Tryz.prog.cellsOf 9 = 1 := by kernel_rfl
  have g0 : DataW.trod en Tryz.prog W base sp held k 9 (([c0, c1, c2, c3, c4].drop 0).take (Tryz.prog.cellsOf 9)) = xs[0]? := hf 0 { name := "Name", type := 9, offset := 0, embedded := false, tag := "", pkgPath := "", byteOffset := 0 } rfl
  rw [e0, List.getElem?_eq_getElem (by omega)] at g0
  have e1 : Tryz.prog.cellsOf 3 = 1 := by kernel_rfl
  have g1 : DataW.trod en Tryz.prog W base sp held k 3 (([c0, c1, c2, c3, c4].drop 1).take (Tryz.prog.cellsOf 3)) = xs[1]? := hf 1 { name := "Node", type := 3, offset := 1, embedded := false, tag := "", pkgPath := "", byteOffset := 16 } rfl
  rw [e1, List.getElem?_eq_getElem (by omega)] at g1
  have e2 : Tryz.prog.cellsOf 3 = 1 := by kernel_rfl
  have g2 : DataW.trod en Tryz.prog W base sp held k 3 (([c0, c1, c2, c3, c4].drop 2).take (Tryz.prog.cellsOf 3)) = xs[2]? := hf 2 { name := "IRQ", type := 3, offset := 2, embedded := false, tag := "", pkgPath := "", byteOffset := 24 } rfl
  rw [e2, List.getElem?_eq_getElem (by omega)] at g2
  have e3 : Tryz.prog.cellsOf 45 = 1 := by kernel_rfl
  have g3 : DataW.trod en Tryz.prog W base sp held k 45 (([c0, c1, c2, c3, c4].drop 3).take (Tryz.prog.cellsOf 45)) = xs[3]? := hf 3 { name := "Base", type := 45, offset := 3, embedded := false, tag := "", pkgPath := "", byteOffset := 32 } rfl
  rw [e3, List.getElem?_eq_getElem (by omega)] at g3
  have e4 : Tryz.prog.cellsOf 45 = 1 := by kernel_rfl
  have g4 : DataW.trod en Tryz.prog W base sp held k 45 (([c0, c1, c2, c3, c4].drop 4).take (Tryz.prog.cellsOf 45)) = xs[4]? := hf 4 { name := "Size", type := 45, offset := 4, embedded := false, tag := "", pkgPath := "", byteOffset := 40 } rfl
  rw [e4, List.getElem?_eq_getElem (by omega)] at g4
  obtain ⟨x0, h0⟩ := read_s g0
  obtain ⟨x1, h1, i1⟩ := read_i g1
  obtain ⟨x2, h2, i2⟩ := read_i g2
  obtain ⟨x3, h3, i3⟩ := read_u g3
  obtain ⟨x4, h4, i4⟩ := read_u g4
  simp only [List.drop_zero, List.take_succ_cons, List.take_zero, List.drop_succ_cons, List.cons.injEq, and_true] at h0
  subst h0
  simp only [List.drop_zero, List.take_succ_cons, List.take_zero, List.drop_succ_cons, List.cons.injEq, and_true] at h1
  subst h1
  simp only [List.drop_zero, List.take_succ_cons, List.take_zero, List.drop_succ_cons, List.cons.injEq, and_true] at h2
  subst h2
  simp only [List.drop_zero, List.take_succ_cons, List.take_zero, List.drop_succ_cons, List.cons.injEq, and_true] at h3
  subst h3
  simp only [List.drop_zero, List.take_succ_cons, List.take_zero, List.drop_succ_cons, List.cons.injEq, and_true] at h4
  subst h4
  exact ⟨⟨x0, x1, x2, x3, x4⟩, rfl, i1, i2, i3, i4⟩
theorem read_cache {n : Nat} {cs : List Value} {y : DataW H × List MemPlace} (h : DataW.trod en Tryz.prog W base sp held n 79 cs = some y) : ∃ x : CacheH, cs = cC x ∧ (COk (allG0 W) x ∧ okI x.Level ∧ okI x.Line ∧ wideI x.Size ∧ ∀ v ∈ x.Cores, okI v) := by
  obtain ⟨xs, k, -, -, hl, hxl, hf⟩ := DataW.trod_struct Tryz.underlying79 h
  have hl : cs.length = 5 := hl.trans (by kernel_rfl)
  obtain ⟨c0, c1, c2, c3, c4, rfl⟩ := list5 cs hl
  have hxl : xs.length = 5 := hxl
  have e0 : Tryz.prog.cellsOf 9 = 1 := by kernel_rfl
  have g0 : DataW.trod en Tryz.prog W base sp held k 9 (([c0, c1, c2, c3, c4].drop 0).take (Tryz.prog.cellsOf 9)) = xs[0]? := hf 0 { name := "Name", type := 9, offset := 0, embedded := false, tag := "", pkgPath := "", byteOffset := 0 } rfl
  rw [e0, List.getElem?_eq_getElem (by omega)] at g0
  have e1 : Tryz.prog.cellsOf 3 = 1 := by kernel_rfl
  have g1 : DataW.trod en Tryz.prog W base sp held k 3 (([c0, c1, c2, c3, c4].drop 1).take (Tryz.prog.cellsOf 3)) = xs[1]? := hf 1 { name := "Level", type := 3, offset := 1, embedded := false, tag := "", pkgPath := "", byteOffset := 16 } rfl
  rw [e1, List.getElem?_eq_getElem (by omega)] at g1
  have e2 : Tryz.prog.cellsOf 3 = 1 := by kernel_rfl
  have g2 : DataW.trod en Tryz.prog W base sp held k 3 (([c0, c1, c2, c3, c4].drop 2).take (Tryz.prog.cellsOf 3)) = xs[2]? := hf 2 { name := "Line", type := 3, offset := 2, embedded := false, tag := "", pkgPath := "", byteOffset := 24 } rfl
  rw [e2, List.getElem?_eq_getElem (by omega)] at g2
  have e3 : Tryz.prog.cellsOf 45 = 1 := by kernel_rfl
  have g3 : DataW.trod en Tryz.prog W base sp held k 45 (([c0, c1, c2, c3, c4].drop 3).take (Tryz.prog.cellsOf 45)) = xs[3]? := hf 3 { name := "Size", type := 45, offset := 3, embedded := false, tag := "", pkgPath := "", byteOffset := 32 } rfl
  rw [e3, List.getElem?_eq_getElem (by omega)] at g3
  have e4 : Tryz.prog.cellsOf 43 = 1 := by kernel_rfl
  have g4 : DataW.trod en Tryz.prog W base sp held k 43 (([c0, c1, c2, c3, c4].drop 4).take (Tryz.prog.cellsOf 43)) = xs[4]? := hf 4 { name := "Cores", type := 43, offset := 4, embedded := false, tag := "", pkgPath := "", byteOffset := 40 } rfl
  rw [e4, List.getElem?_eq_getElem (by omega)] at g4
  obtain ⟨x0, h0⟩ := read_s g0
  obtain ⟨x1, h1, i1⟩ := read_i g1
  obtain ⟨x2, h2, i2⟩ := read_i g2
  obtain ⟨x3, h3, i3⟩ := read_u g3
  have g4 : DataW.trod en Tryz.prog W base sp held k 43 [c4] = some _ := g4
  obtain ⟨x4, r4, i4⟩ := read_ints g4
  obtain ⟨va, vm, vc, rfl, -⟩ := r4.shape
  simp only [List.drop_zero, List.take_succ_cons, List.take_zero, List.drop_succ_cons, List.cons.injEq, and_true] at h0
  subst h0
  simp only [List.drop_zero, List.take_succ_cons, List.take_zero, List.drop_succ_cons, List.cons.injEq, and_true] at h1
  subst h1
  simp only [List.drop_zero, List.take_succ_cons, List.take_zero, List.drop_succ_cons, List.cons.injEq, and_true] at h2
  subst h2
  simp only [List.drop_zero, List.take_succ_cons, List.take_zero, List.drop_succ_cons, List.cons.injEq, and_true] at h3
  subst h3
  exact ⟨⟨x0, x1, x2, x3, va, vm, vc, x4⟩, rfl, r4, i1, i2, i3, i4⟩
instance : Inhabited CoreT := ⟨⟨0, 0, 0, 0⟩⟩
/-- Every number of a description is what its type says. -/
structure HwIn64 (H : HwT) : Prop where
  c : ∀ x ∈ H.Cores, okI x.ID ∧ okI x.Width ∧ okI x.Node ∧ okI x.Speed
  h : ∀ x ∈ H.Caches, okI x.Level ∧ okI x.Line ∧ wideI x.Size ∧ ∀ v ∈ x.Cores, okI v
  l : ∀ x ∈ H.Links, okI x.A ∧ okI x.B ∧ okI x.Latency
  m : ∀ x ∈ H.Mems, wideI x.Base ∧ wideI x.Size ∧ okI x.Node ∧ okI x.Latency
  d : ∀ x ∈ H.Devs, okI x.Node ∧ okI x.IRQ ∧ wideI x.Base ∧ wideI x.Size
theorem HwIn64.wide {H : HwT} (h : HwIn64 H) : HwWide H := ⟨fun x hx => (h.h x hx).2.2.1, fun x hx => ⟨(h.m x hx).1, (h.m x hx).2.1⟩, fun x hx => ⟨(h.d x hx).2.2.1, (h.d x hx).2.2.2⟩⟩
set_option maxRecDepth 100000 in
theorem read_hwV {r : Go.Reach} {b : Nat} {v : Value} {d : DataW H} {pl : List MemPlace} (hk : Value.okWide Tryz.prog W r b 35 v) (h : DataW.Trod en Tryz.prog W base sp held 35 v d pl) : ∃ H : HwT, HwQ (allG0 W) v H ∧ HwIn64 H := by
  obtain ⟨cs, rfl, -⟩ := okWide_struct Tryz.underlying35 hk
  obtain ⟨n, h⟩ := h
  have h : DataW.trod en Tryz.prog W base sp held n 35 cs.toList = some _ := h
  obtain ⟨xs, k, -, -, hl, hxl, hf⟩ := DataW.trod_struct Tryz.underlying35 h
  have hl : cs.toList.length = 6 := hl.trans (by kernel_rfl)
  obtain ⟨c0, c1, c2, c3, c4, c5, hcs⟩ := list6 cs.toList hl
  have hxl : xs.length = 6 := hxl
  rw [hcs] at hf
  have e0 : Tryz.prog.cellsOf 9 = 1 := by kernel_rfl
  have g0 : DataW.trod en Tryz.prog W base sp held k 9 (([c0, c1, c2, c3, c4, c5].drop 0).take (Tryz.prog.cellsOf 9)) = xs[0]? := hf 0 { name := "Name", type := 9, offset := 0, embedded := false, tag := "", pkgPath := "", byteOffset := 0 } rfl
  rw [e0, List.getElem?_eq_getElem (by omega)] at g0
  have e1 : Tryz.prog.cellsOf 29 = 1 := by kernel_rfl
  have g1 : DataW.trod en Tryz.prog W base sp held k 29 (([c0, c1, c2, c3, c4, c5].drop 1).take (Tryz.prog.cellsOf 29)) = xs[1]? := hf 1 { name := "Cores", type := 29, offset := 1, embedded := false, tag := "", pkgPath := "", byteOffset := 16 } rfl
  rw [e1, List.getElem?_eq_getElem (by omega)] at g1
  have e2 : Tryz.prog.cellsOf 30 = 1 := by kernel_rfl
  have g2 : DataW.trod en Tryz.prog W base sp held k 30 (([c0, c1, c2, c3, c4, c5].drop 2).take (Tryz.prog.cellsOf 30)) = xs[2]? := hf 2 { name := "Caches", type := 30, offset := 2, embedded := false, tag := "", pkgPath := "", byteOffset := 40 } rfl
  rw [e2, List.getElem?_eq_getElem (by omega)] at g2
  have e3 : Tryz.prog.cellsOf 31 = 1 := by kernel_rfl
  have g3 : DataW.trod en Tryz.prog W base sp held k 31 (([c0, c1, c2, c3, c4, c5].drop 3).take (Tryz.prog.cellsOf 31)) = xs[3]? := hf 3 { name := "Links", type := 31, offset := 3, embedded := false, tag := "", pkgPath := "", byteOffset := 64 } rfl
  rw [e3, List.getElem?_eq_getElem (by omega)] at g3
  have e4 : Tryz.prog.cellsOf 32 = 1 := by kernel_rfl
  have g4 : DataW.trod en Tryz.prog W base sp held k 32 (([c0, c1, c2, c3, c4, c5].drop 4).take (Tryz.prog.cellsOf 32)) = xs[4]? := hf 4 { name := "Memories", type := 32, offset := 4, embedded := false, tag := "", pkgPath := "", byteOffset := 88 } rfl
  rw [e4, List.getElem?_eq_getElem (by omega)] at g4
  have e5 : Tryz.prog.cellsOf 33 = 1 := by kernel_rfl
  have g5 : DataW.trod en Tryz.prog W base sp held k 33 (([c0, c1, c2, c3, c4, c5].drop 5).take (Tryz.prog.cellsOf 33)) = xs[5]? := hf 5 { name := "Devices", type := 33, offset := 5, embedded := false, tag := "", pkgPath := "", byteOffset := 112 } rfl
  rw [e5, List.getElem?_eq_getElem (by omega)] at g5
  obtain ⟨s, hs⟩ := read_s g0
  simp only [List.drop_zero, List.take_succ_cons, List.take_zero, List.cons.injEq, and_true] at hs
  subst hs
  have g1 : DataW.trod en Tryz.prog W base sp held k 29 [c1] = some _ := g1
  have g2 : DataW.trod en Tryz.prog W base sp held k 30 [c2] = some _ := g2
  have g3 : DataW.trod en Tryz.prog W base sp held k 31 [c3] = some _ := g3
  have g4 : DataW.trod en Tryz.prog W base sp held k 32 [c4] = some _ := g4
  have g5 : DataW.trod en Tryz.prog W base sp held k 33 [c5] = some _ := g5
  obtain ⟨x1, r1, i1⟩ := read_slice (F := fun x : CoreT => enc x) (sz := 4) (e := 77) (by kernel_rfl) (by decide) (fun x => rfl) Tryz.underlying29 (fun h => read_core h) g1
  obtain ⟨x2, r2, i2⟩ := read_slice (F := cC) (sz := 5) (e := 79) (by kernel_rfl) (by decide) (fun x => rfl) Tryz.underlying30 (fun h => read_cache h) g2
  obtain ⟨x3, r3, i3⟩ := read_slice (F := fun x : LinkT => enc x) (sz := 3) (e := 82) (by kernel_rfl) (by decide) (fun x => rfl) Tryz.underlying31 (fun h => read_link h) g3
  obtain ⟨x4, r4, i4⟩ := read_slice (F := fun x : MemT => enc x) (sz := 5) (e := 47) (by kernel_rfl) (by decide) (fun x => rfl) Tryz.underlying32 (fun h => read_mem h) g4
  obtain ⟨x5, r5, i5⟩ := read_slice (F := fun x : DevT => enc x) (sz := 5) (e := 84) (by kernel_rfl) (by decide) (fun x => rfl) Tryz.underlying33 (fun h => read_dev h) g5
  obtain ⟨a1, n1, k1, rfl, -⟩ := r1.shape
  obtain ⟨a2, n2, k2, rfl, -⟩ := r2.shape
  obtain ⟨a3, n3, k3, rfl, -⟩ := r3.shape
  obtain ⟨a4, n4, k4, rfl, -⟩ := r4.shape
  obtain ⟨a5, n5, k5, rfl, -⟩ := r5.shape
  refine ⟨⟨s, x1, x2.map CacheH.T, x3, x4, x5⟩, ⟨a1, n1, k1, a2, n2, k2, a3, n3, k3, a4, n4, k4, a5, n5, k5, x2, ?_, rfl, fun c hc => (i2 c hc).1, r1, r2, r3, r4, r5⟩, i1, fun x hx => ?_, i3, i4, i5⟩
  · have : cs = #[.string s, .slice a1 n1 k1, .slice a2 n2 k2, .slice a3 n3 k3, .slice a4 n4 k4, .slice a5 n5 k5] := by
      apply Array.toList_inj.1; exact hcs
    rw [this]
  · obtain ⟨c, hc, rfl⟩ := List.mem_map.1 hx
    exact (i2 c hc).2
end
end Go.Proofs.YtimbobmmijgkiaaGreatDoor
end
/- DescOrder, the plain law: a memory's attributes in any order, one missing, one twice (no program in sight). -/
section
open Go Mk
namespace Go.Proofs.YtimbobmmijgkiaaGreatDoor
set_option maxHeartbeats 4000000
attribute [local irreducible] Calls

def nmB : ByteArray := ⟨#[109]⟩
def hOf (m : MemT) : HwT := ⟨nmB, [], [], [], [m], []⟩
def a4 (m : MemT) : List Attr := [(baseB, [m.Base.toNat]), (sizeB, [m.Size.toNat]), (nodeB, [m.Node.toNat]), (latencyB, [m.Latency.toNat])]
abbrev names4 : List ByteArray := [baseB, sizeB, nodeB, latencyB]
def hd6 (m : MemT) : List Tri := [(1, machineB, 0), (3, nmB, 0), (4, mkB [123], 0), (1, memoryB, 0), (1, m.Name, 0), (4, mkB [123], 0)]
abbrev clT : Tri := (4, mkB [125], 0)
theorem format_hOf (m : MemT) : formatT (hOf m) = hd6 m ++ ((a4 m).flatMap attrT ++ [clT, clT]) := rfl
theorem memOk_hOf {m : MemT} (h : (Ent.mem m).ok) : PrintP (hOf m) := ⟨(by decide : nmB.size ≤ 24), (by decide : textB nmB = true), fun x hx => by rw [show x = Ent.mem m by simpa [entsOf, hOf] using hx]; exact h⟩
theorem attr_rd {m : MemT} (h : (Ent.mem m).ok) : ∀ a ∈ a4 m, AttrRd a ∧ a.1 ∈ names4 := fun a ha => by
  obtain ⟨h1, h2, h3, h4, h5⟩ := h
  rcases List.mem_cons.1 ha with q | ha
  · rw [q]; exact ⟨rd2 (by decide), by simp⟩
  rcases List.mem_cons.1 ha with q | ha
  · rw [q]; exact ⟨rd2 (by decide), by simp⟩
  rcases List.mem_cons.1 ha with q | ha
  · rw [q]; exact ⟨rd1 h4, by simp⟩
  rw [List.mem_singleton.1 ha]; exact ⟨rd1 h5, by simp⟩
section
variable {toks : List Tok} {e : PosT} {m : MemT}
theorem hw_err {ks : List Tri} (h : Fol toks 0 (hd6 m ++ ks)) (hn : m.Name.size ≤ 24) {q : PosT × Int} (hA : attrP toks e names4 5 = .error q) : hardwareP toks e = .error q := by
  have g0 : Fol toks 0 ((1, machineB, 0) :: (3, nmB, 0) :: (4, mkB [123], 0) :: (1, memoryB, 0) :: (1, m.Name, 0) :: (4, mkB [123], 0) :: ks) := h
  have g1 := g0.next
  have g2 := g1.next
  have g3 := g2.next
  have g4 := g3.next
  obtain ⟨t, ht, t1, -⟩ := g3.nextP (e := e)
  unfold hardwareP
  rw [g0.expect]
  dsimp only
  rw [g1.name (by decide)]
  dsimp only
  rw [g2.expect (tx := openB)]
  dsimp only
  unfold itemsP
  rw [g3.isS, show (decide ((1 : Int) = 4)) = false from rfl, Bool.false_and, if_neg (by decide)]
  unfold itemP
  rw [ht]
  dsimp only
  rw [t1, if_neg (show ¬ memoryB = coreB by decide), if_neg (show ¬ memoryB = cacheB by decide), if_neg (show ¬ memoryB = linkB by decide), if_pos rfl]
  unfold memP
  rw [g4.name hn]
  dsimp only
  rw [hA]; rfl
theorem hw_ok {ks : List Tri} (h : Fol toks 0 (hd6 m ++ ks)) (hn : m.Name.size ≤ 24) {a : Got} {k2 : Nat} (hA : attrP toks e names4 5 = .ok (a, k2)) (hF : Fol toks k2 [clT]) : hardwareP toks e = .ok (hOf ⟨m.Name, numOf a baseB, numOf a sizeB, intOf a nodeB, intOf a latencyB⟩, k2 + 1) := by
  have g0 : Fol toks 0 ((1, machineB, 0) :: (3, nmB, 0) :: (4, mkB [123], 0) :: (1, memoryB, 0) :: (1, m.Name, 0) :: (4, mkB [123], 0) :: ks) := h
  have g1 := g0.next
  have g2 := g1.next
  have g3 := g2.next
  have g4 := g3.next
  have hl := g0.len
  simp only [List.length_cons] at hl
  obtain ⟨t, ht, t1, -⟩ := g3.nextP (e := e)
  unfold hardwareP
  rw [g0.expect]
  dsimp only
  rw [g1.name (by decide)]
  dsimp only
  rw [g2.expect (tx := openB)]
  dsimp only
  unfold itemsP
  rw [g3.isS, show (decide ((1 : Int) = 4)) = false from rfl, Bool.false_and, if_neg (by decide)]
  unfold itemP
  rw [ht]
  dsimp only
  rw [t1, if_neg (show ¬ memoryB = coreB by decide), if_neg (show ¬ memoryB = cacheB by decide), if_neg (show ¬ memoryB = linkB by decide), if_pos rfl]
  unfold memP
  rw [g4.name hn]
  dsimp only
  rw [hA]
  obtain ⟨f, hf⟩ : ∃ f, toks.length = f + 1 := ⟨toks.length - 1, by omega⟩
  dsimp only [PR.map]
  rw [hf]
  unfold itemsP
  rw [hF.isS, if_pos (by decide)]
  dsimp only
  have hend := congrArg List.length hF.next
  simp only [List.length_map, List.length_drop, List.length_nil] at hend
  rw [if_neg (by omega)]
  rfl
theorem Fol.dup {names : List ByteArray} {ks : List Tri} {a : Attr} (haN : a.1 ∈ names) : ∀ {xs : List Attr} {f k : Nat} {got : List (ByteArray × List Int)}, Fol toks k (xs.flatMap attrT ++ (attrT a ++ ks)) → (∀ a ∈ xs, AttrRd a ∧ a.1 ∈ names) → (got.map (·.1) ++ xs.map (·.1)).Nodup → a.1 ∈ got.map (·.1) ++ xs.map (·.1) → xs.length < f → Go.Proofs.YtimbobmmijgkiaaGreatDoor.attrN toks e names f k got = Except.error (posOf toks (k + (xs.flatMap attrT).length) e, 56) ∧ k + (xs.flatMap attrT).length < toks.length
  | _, 0, _, _, _, _, _, _, hf => by omega
  | [], f + 1, k, got, h, _, _, hin, _ => by
    have h0 : Fol toks k ((1, a.1, 0) :: ((decT a.2 ++ [(4, mkB [59], 0)]) ++ ks)) := h
    obtain ⟨x, hx, x1, -⟩ := h0.nextP (e := e)
    obtain ⟨y, hy, -⟩ := h0.get
    refine ⟨?_, (List.getElem?_eq_some_iff.1 hy).1⟩
    unfold Go.Proofs.YtimbobmmijgkiaaGreatDoor.attrN
    rw [h0.isS, show (decide ((1 : Int) = 4)) = false from rfl, Bool.false_and, if_neg (by decide)]
    unfold oneAttr
    rw [hx]
    dsimp only
    rw [x1, if_neg (by rw [memB_iff.2 haN]; simp), if_pos (memB_iff.2 (by simpa using hin))]
    rfl
  | b :: xs, f + 1, k, got, h, ha, hd, hin, hf => by
    have hT : (b :: xs).flatMap attrT ++ (attrT a ++ ks) = attrT b ++ (xs.flatMap attrT ++ (attrT a ++ ks)) := by simp
    rw [hT] at h
    have h0 : Fol toks k ((1, b.1, 0) :: ((decT b.2 ++ [(4, mkB [59], 0)]) ++ (xs.flatMap attrT ++ (attrT a ++ ks)))) := h
    obtain ⟨q1, q2⟩ := ha b (by simp)
    have hno : memB b.1 (got.map (·.1)) = false := by
      rw [Bool.eq_false_iff]
      intro q
      have q := memB_iff.1 q
      rw [List.map_cons] at hd
      exact (List.nodup_append.1 hd).2.2 b.1 q b.1 (by simp) rfl
    have ih := Fol.dup haN (xs := xs) (f := f) (k := k + (attrT b).length) (got := got ++ [attrV b]) (Fol.skip h) (fun x hx => ha x (List.mem_cons_of_mem _ hx)) (by simpa using hd) (by simpa using hin) (by simp at hf; omega)
    have hk : k + ((b :: xs).flatMap attrT).length = k + (attrT b).length + (xs.flatMap attrT).length := by rw [List.flatMap_cons, List.length_append]; omega
    rw [hk]
    unfold Go.Proofs.YtimbobmmijgkiaaGreatDoor.attrN
    rw [h0.isS, show (decide ((1 : Int) = 4)) = false from rfl, Bool.false_and, if_neg (by decide), h.one q1 (memB_iff.2 q2) hno]
    exact ih
theorem attrP_dup {names : List ByteArray} {ks : List Tri} {a : Attr} {xs : List Attr} {k : Nat} (haN : a.1 ∈ names) (h : Fol toks k ((4, mkB [123], 0) :: (xs.flatMap attrT ++ (attrT a ++ ks)))) (ha : ∀ a ∈ xs, AttrRd a ∧ a.1 ∈ names) (hd : (xs.map (·.1)).Nodup) (hin : a.1 ∈ xs.map (·.1)) : ∃ j, j < toks.length ∧ attrP toks e names k = .error (posOf toks j e, 56) := by
  have h1 := h.next
  have hl := h1.len
  have hk := attrs_len xs
  simp only [List.length_append, List.length_cons] at hl
  obtain ⟨q1, q2⟩ := Fol.dup (e := e) haN (f := toks.length + 1) (got := []) h1 ha (by simpa using hd) (by simpa using hin) (by omega)
  refine ⟨_, q2, ?_⟩
  unfold attrP
  rw [h.expect (tx := openB)]
  dsimp only
  rw [q1]
theorem attrP_few {names : List ByteArray} {ks : List Tri} {xs : List Attr} {k : Nat} (h : Fol toks k (attrsT xs ++ ks)) (ha : ∀ a ∈ xs, AttrRd a ∧ a.1 ∈ names) (hd : (xs.map (·.1)).Nodup) (hn : xs.length < names.length) : ∃ p, attrP toks e names k = .error (p, 50) := by
  have hT : attrsT xs ++ ks = (4, mkB [123], 0) :: (xs.flatMap attrT ++ (4, mkB [125], 0) :: ks) := by unfold attrsT; simp
  rw [hT] at h
  have h1 := h.next
  have hl := h1.len
  have hk := attrs_len xs
  simp only [List.length_append, List.length_cons] at hl
  refine ⟨posOf toks (k + 1 + (xs.flatMap attrT).length) e, ?_⟩
  unfold attrP
  rw [h.expect (tx := openB)]
  dsimp only
  rw [Fol.attrN (xs := xs) h1 ha (by simpa using hd) (by omega)]
  dsimp only
  rw [if_pos (by simpa using hn)]
end
/-! ### the positions of a text without line ends -/
theorem line_one {s : ByteArray} (h : ∀ c ∈ bts s, c ≠ 10) : ∀ k, k ≤ s.size → (posAt s k).Line = 1
  | 0, _ => rfl
  | k + 1, hk => by
    have ih := line_one h k (by omega)
    have hb : byteAt s k ≠ 10 := by
      have hk' : k < (bts s).length := by rw [bts_len]; omega
      have hc := h _ (List.getElem_mem hk')
      show ((((bts s).getD k 0).toNat : Nat) : Int) ≠ 10
      rw [List.getD_eq_getElem?_getD, List.getElem?_eq_getElem hk']
      intro q
      refine hc (UInt8.toNat_inj.1 ?_)
      have q : (((bts s)[k].toNat : Nat) : Int) = 10 := q
      show (bts s)[k].toNat = 10
      omega
    unfold posAt
    rw [if_neg hb]; exact ih
theorem scan_line {s : ByteArray} (h : ∀ c ∈ bts s, c ≠ 10) : ∀ (f off : Nat) (acc : List Tok), (∀ t ∈ acc, t.Line = 1) → ∀ t ∈ (scanN s f off acc).1, t.Line = 1
  | 0, _, acc, ha => ha
  | f + 1, off, acc, ha => by
    unfold scanN
    split
    · exact ha
    · rename_i hlt
      split
      · exact scan_line h f _ acc ha
      · split
        · exact scan_line h f _ acc ha
        · split
          · refine scan_line h f _ _ fun t ht => ?_
            rcases List.mem_append.1 ht with q | q
            · exact ha t q
            · rw [List.mem_singleton.1 q]; exact line_one h off (by omega)
          · intro t ht; cases ht
theorem scanS_line {s : ByteArray} (h : ∀ c ∈ bts s, c ≠ 10) : ∀ t ∈ (scanS s).1, t.Line = 1 := by
  unfold scanS
  split
  · intro t ht; cases ht
  · exact scan_line h _ _ _ fun t ht => by cases ht
theorem word_no10 {l : List UInt8} (h : l.all wordC = true) : ∀ c ∈ l, c ≠ 10 := fun c hc q => by
  have := List.all_eq_true.1 h c hc
  rw [q] at this; exact absurd this (by decide)
theorem txtT_no10 {t : Tok} (h : TokIn t) : ∀ c ∈ txtT t, c ≠ 10 := by
  unfold TokIn at h
  unfold txtT
  rcases h with ⟨e, h1, -⟩ | ⟨e, -, -⟩ | ⟨e, h1, -⟩ | ⟨e, h1, -⟩
  · rw [e, if_neg (by decide), if_neg (by decide)]
    unfold wordS at h1
    rw [Bool.and_eq_true] at h1
    exact word_no10 h1.2
  · rw [e, if_pos rfl]
    exact word_no10 (dec_word _)
  · rw [e, if_neg (by decide), if_pos rfl]
    intro c hc
    rcases List.mem_cons.1 hc with q | hc
    · rw [q]; decide
    · rcases List.mem_append.1 hc with hc | hc
      · intro q
        have := List.all_eq_true.1 h1 c hc
        rw [q] at this; exact absurd this (by decide)
      · rw [List.mem_singleton.1 hc]; decide
  · rw [e, if_neg (by decide), if_neg (by decide)]
    have key : ∀ c ∈ oneB, c ≠ 10 := by decide
    rcases h1 with ⟨c, q, hc⟩ | ⟨c, d, q, h2⟩
    · rw [q]; intro x hx; rw [List.mem_singleton.1 hx]; exact key c hc
    · rw [q]
      intro x hx
      rcases List.mem_cons.1 hx with r | hx
      · rw [r]; exact key c (two2_one h2)
      · rw [List.mem_singleton.1 hx]
        intro r
        rw [r] at h2
        unfold two2 at h2
        simp at h2
theorem layT_no10 : ∀ {ts : List Tok}, (∀ t ∈ ts, TokIn t) → ∀ c ∈ layT ts, c ≠ 10
  | [], _ => fun c hc => by cases hc
  | [t], h => txtT_no10 (h t (by simp))
  | t :: u :: ts, h => fun c hc => by
    have hL : layT (t :: u :: ts) = txtT t ++ 32 :: layT (u :: ts) := rfl
    rw [hL] at hc
    rcases List.mem_append.1 hc with hc | hc
    · exact txtT_no10 (h t (by simp)) c hc
    · rcases List.mem_cons.1 hc with q | hc
      · rw [q]; decide
      · exact layT_no10 (fun x hx => h x (List.mem_cons_of_mem _ hx)) c hc
/-! ### the law -/
def atN (k : Nat) (drop : Bool) (i : Nat) : Nat := if (drop && decide (i = 3)) = true then 6 + 3 * (k % 4) else 6 + 3 * ((i + k) % 4)
/-- The first i attributes in their new order. -/
def turned (toks : List Tok) (k : Nat) (drop : Bool) (i : Nat) : List Tok := toks.take 6 ++ ((List.range i).flatMap fun j => (toks.drop (atN k drop j)).take 3)
def turnU (toks : List Tok) (k : Nat) (drop : Bool) : List Tok := turned toks k drop 4 ++ toks.drop 18
def missU (toks : List Tok) (k : Nat) (drop : Bool) : List Tok := (turnU toks k drop).take 6 ++ (turnU toks k drop).drop 9
theorem turned_succ (toks : List Tok) (k : Nat) (drop : Bool) (i : Nat) : turned toks k drop (i + 1) = turned toks k drop i ++ (toks.drop (atN k drop i)).take 3 := by
  unfold turned
  rw [List.range_succ, List.flatMap_append, List.append_assoc]; simp
def pick4 (m : MemT) (k : Nat) (drop : Bool) (i : Nat) : Attr := (a4 m).getD (if (drop && decide (i = 3)) = true then k % 4 else (i + k) % 4) (⟨#[]⟩, [])
theorem turn_tri {toks : List Tok} {m : MemT} {k : Nat} (hk : k < 4) (drop : Bool) (ht : toks.map tri = formatT (hOf m)) : (turnU toks k drop).map tri = hd6 m ++ ((pick4 m k drop 0 :: pick4 m k drop 1 :: pick4 m k drop 2 :: [pick4 m k drop 3]).flatMap attrT ++ [clT, clT]) := by
  unfold turnU turned
  rw [List.map_append, List.map_append, List.map_take, List.map_drop, List.map_flatMap]
  simp only [List.map_take, List.map_drop, ht]
  rcases (show k = 0 ∨ k = 1 ∨ k = 2 ∨ k = 3 by omega) with rfl | rfl | rfl | rfl <;> cases drop <;> rfl
theorem miss_tri {toks : List Tok} {m : MemT} {k : Nat} (hk : k < 4) (drop : Bool) (ht : toks.map tri = formatT (hOf m)) : (missU toks k drop).map tri = hd6 m ++ ((pick4 m k drop 1 :: pick4 m k drop 2 :: [pick4 m k drop 3]).flatMap attrT ++ [clT, clT]) := by
  unfold missU
  rw [List.map_append, List.map_take, List.map_drop, turn_tri hk drop ht]
  rcases (show k = 0 ∨ k = 1 ∨ k = 2 ∨ k = 3 by omega) with rfl | rfl | rfl | rfl <;> cases drop <;> rfl
theorem pick_mem {m : MemT} {k : Nat} (drop : Bool) {i : Nat} : pick4 m k drop i ∈ a4 m := by
  unfold pick4
  have key : ∀ j, j < 4 → (a4 m).getD j (⟨#[]⟩, []) ∈ a4 m := fun j hj => by
    rcases (show j = 0 ∨ j = 1 ∨ j = 2 ∨ j = 3 by omega) with rfl | rfl | rfl | rfl <;> simp [a4]
  split
  · exact key _ (Nat.mod_lt _ (by decide))
  · exact key _ (Nat.mod_lt _ (by decide))
theorem turn_in {toks : List Tok} {k : Nat} {drop : Bool} (h : ∀ t ∈ toks, TokIn t) : ∀ t ∈ turnU toks k drop, TokIn t := fun t ht => by
  unfold turnU turned at ht
  rcases List.mem_append.1 ht with ht | ht
  · rcases List.mem_append.1 ht with ht | ht
    · exact h t (List.mem_of_mem_take ht)
    · obtain ⟨j, -, hj⟩ := List.mem_flatMap.1 ht
      exact h t (List.mem_of_mem_drop (List.mem_of_mem_take hj))
  · exact h t (List.mem_of_mem_drop ht)
theorem miss_in {toks : List Tok} {k : Nat} {drop : Bool} (h : ∀ t ∈ toks, TokIn t) : ∀ t ∈ missU toks k drop, TokIn t := fun t ht => by
  unfold missU at ht
  rcases List.mem_append.1 ht with ht | ht
  · exact turn_in h t (List.mem_of_mem_take ht)
  · exact turn_in h t (List.mem_of_mem_drop ht)
/-- What is read of the text of these tokens. -/
theorem parse_lay2 {ts : List Tok} (hin : ∀ t ∈ ts, TokIn t) (hl : (layT ts).length ≤ 65536) : ∃ toks, toks.map tri = ts.map tri ∧ (∀ t ∈ toks, t.Line = 1) ∧ parseS (mkB (layT ts)) = (match hardwareP toks (endP (mkB (layT ts))) with | .ok (H, _) => (H, ⟨0, 0⟩, 0) | .error (p, er) => (default, p, er)) := by
  obtain ⟨toks, h1, h2⟩ := scanS_of (Tz.lay hin) hl
  refine ⟨toks, h1, ?_, ?_⟩
  · have := scanS_line (s := mkB (layT ts)) (by unfold mkB; rw [bts_mk]; exact layT_no10 hin)
    rw [h2] at this; exact this
  · unfold parseS
    rw [h2]
    dsimp only
    rw [if_pos rfl]
    generalize hardwareP toks (endP (mkB (layT ts))) = r
    cases r <;> rfl
theorem order_ok {toks : List Tok} {m : MemT} {k : Nat} (hk : k < 4) (hm : (Ent.mem m).ok) (ht : toks.map tri = formatT (hOf m)) (hin : ∀ t ∈ toks, TokIn t) (hl : (layT (turnU toks k false)).length ≤ 65536) : parseS (mkB (layT (turnU toks k false))) = (hOf m, ⟨0, 0⟩, 0) := by
  obtain ⟨ts, h1, -, h3⟩ := parse_lay2 (turn_in hin) hl
  rw [turn_tri hk false ht] at h1
  have hn := (name_word hm.1).2
  rw [h3]
  generalize endP (mkB (layT (turnU toks k false))) = e
  have h0 : Fol ts 0 (hd6 m ++ ((pick4 m k false 0 :: pick4 m k false 1 :: pick4 m k false 2 :: [pick4 m k false 3]).flatMap attrT ++ [clT, clT])) := h1
  have h5 : Fol ts 5 (attrsT (pick4 m k false 0 :: pick4 m k false 1 :: pick4 m k false 2 :: [pick4 m k false 3]) ++ [clT]) := by
    have g : Fol ts 0 ([(1, machineB, 0), (3, nmB, 0), (4, mkB [123], 0), (1, memoryB, 0), (1, m.Name, 0)] ++ (attrsT (pick4 m k false 0 :: pick4 m k false 1 :: pick4 m k false 2 :: [pick4 m k false 3]) ++ [clT])) := by
      have hE : [(1, machineB, 0), (3, nmB, 0), (4, mkB [123], 0), (1, memoryB, 0), (1, m.Name, 0)] ++ (attrsT (pick4 m k false 0 :: pick4 m k false 1 :: pick4 m k false 2 :: [pick4 m k false 3]) ++ [clT]) = hd6 m ++ ((pick4 m k false 0 :: pick4 m k false 1 :: pick4 m k false 2 :: [pick4 m k false 3]).flatMap attrT ++ [clT, clT]) := by
        unfold attrsT hd6; simp
      rw [hE]; exact h0
    exact Fol.skip g
  have hnd : ((pick4 m k false 0 :: pick4 m k false 1 :: pick4 m k false 2 :: [pick4 m k false 3]).map (·.1)).Nodup := by
    rcases (show k = 0 ∨ k = 1 ∨ k = 2 ∨ k = 3 by omega) with rfl | rfl | rfl | rfl
    · exact (by decide : ([baseB, sizeB, nodeB, latencyB] : List ByteArray).Nodup)
    · exact (by decide : ([sizeB, nodeB, latencyB, baseB] : List ByteArray).Nodup)
    · exact (by decide : ([nodeB, latencyB, baseB, sizeB] : List ByteArray).Nodup)
    · exact (by decide : ([latencyB, baseB, sizeB, nodeB] : List ByteArray).Nodup)
  have hA := Fol.attrs (e := e) (names := names4) h5 (fun a ha => attr_rd hm a (by
    simp only [List.mem_cons, List.not_mem_nil, or_false] at ha
    rcases ha with q | q | q | q <;> (rw [q]; exact pick_mem false))) hnd (Nat.le_refl _)
  rw [hw_ok h0 hn hA (Fol.skip h5)]
  dsimp only
  obtain ⟨h1', o2, o3, o4, o5⟩ := hm
  have hE : (⟨m.Name, numOf ([pick4 m k false 0, pick4 m k false 1, pick4 m k false 2, pick4 m k false 3].map attrV) baseB, numOf ([pick4 m k false 0, pick4 m k false 1, pick4 m k false 2, pick4 m k false 3].map attrV) sizeB, intOf ([pick4 m k false 0, pick4 m k false 1, pick4 m k false 2, pick4 m k false 3].map attrV) nodeB, intOf ([pick4 m k false 0, pick4 m k false 1, pick4 m k false 2, pick4 m k false 3].map attrV) latencyB⟩ : MemT) = m := by
    have e1 : numOf ([pick4 m k false 0, pick4 m k false 1, pick4 m k false 2, pick4 m k false 3].map attrV) baseB = m.Base := by
      refine Eq.trans ?_ (wideS o2)
      rcases (show k = 0 ∨ k = 1 ∨ k = 2 ∨ k = 3 by omega) with rfl | rfl | rfl | rfl <;> rfl
    have e2 : numOf ([pick4 m k false 0, pick4 m k false 1, pick4 m k false 2, pick4 m k false 3].map attrV) sizeB = m.Size := by
      refine Eq.trans ?_ (wideS o3)
      rcases (show k = 0 ∨ k = 1 ∨ k = 2 ∨ k = 3 by omega) with rfl | rfl | rfl | rfl <;> rfl
    have e3 : intOf ([pick4 m k false 0, pick4 m k false 1, pick4 m k false 2, pick4 m k false 3].map attrV) nodeB = m.Node := by
      refine Eq.trans ?_ (wrapS o4)
      unfold intOf
      congr 1
      rcases (show k = 0 ∨ k = 1 ∨ k = 2 ∨ k = 3 by omega) with rfl | rfl | rfl | rfl <;> rfl
    have e4 : intOf ([pick4 m k false 0, pick4 m k false 1, pick4 m k false 2, pick4 m k false 3].map attrV) latencyB = m.Latency := by
      refine Eq.trans ?_ (wrapS o5)
      unfold intOf
      congr 1
      rcases (show k = 0 ∨ k = 1 ∨ k = 2 ∨ k = 3 by omega) with rfl | rfl | rfl | rfl <;> rfl
    rw [e1, e2, e3, e4]
  rw [hE]
theorem order_dup {toks : List Tok} {m : MemT} {k : Nat} (hk : k < 4) (hm : (Ent.mem m).ok) (ht : toks.map tri = formatT (hOf m)) (hin : ∀ t ∈ toks, TokIn t) (hl : (layT (turnU toks k true)).length ≤ 65536) : (parseS (mkB (layT (turnU toks k true)))).2.2 = 56 ∧ (parseS (mkB (layT (turnU toks k true)))).2.1.Line = 1 := by
  obtain ⟨ts, h1, h2, h3⟩ := parse_lay2 (turn_in hin) hl
  rw [turn_tri hk true ht] at h1
  have hn := (name_word hm.1).2
  rw [h3]
  generalize endP (mkB (layT (turnU toks k true))) = e
  have h0 : Fol ts 0 (hd6 m ++ ((pick4 m k true 0 :: pick4 m k true 1 :: pick4 m k true 2 :: [pick4 m k true 3]).flatMap attrT ++ [clT, clT])) := h1
  have h5 : Fol ts 5 ((4, mkB [123], 0) :: ((pick4 m k true 0 :: pick4 m k true 1 :: [pick4 m k true 2]).flatMap attrT ++ (attrT (pick4 m k true 3) ++ [clT, clT]))) := by
    have g : Fol ts 0 ([(1, machineB, 0), (3, nmB, 0), (4, mkB [123], 0), (1, memoryB, 0), (1, m.Name, 0)] ++ ((4, mkB [123], 0) :: ((pick4 m k true 0 :: pick4 m k true 1 :: [pick4 m k true 2]).flatMap attrT ++ (attrT (pick4 m k true 3) ++ [clT, clT])))) := by
      have hE : [(1, machineB, 0), (3, nmB, 0), (4, mkB [123], 0), (1, memoryB, 0), (1, m.Name, 0)] ++ ((4, mkB [123], 0) :: ((pick4 m k true 0 :: pick4 m k true 1 :: [pick4 m k true 2]).flatMap attrT ++ (attrT (pick4 m k true 3) ++ [clT, clT]))) = hd6 m ++ ((pick4 m k true 0 :: pick4 m k true 1 :: pick4 m k true 2 :: [pick4 m k true 3]).flatMap attrT ++ [clT, clT]) := by
        unfold hd6; simp
      rw [hE]; exact h0
    exact Fol.skip g
  have hnd : ((pick4 m k true 0 :: pick4 m k true 1 :: [pick4 m k true 2]).map (·.1)).Nodup ∧ (pick4 m k true 3).1 ∈ (pick4 m k true 0 :: pick4 m k true 1 :: [pick4 m k true 2]).map (·.1) := by
    rcases (show k = 0 ∨ k = 1 ∨ k = 2 ∨ k = 3 by omega) with rfl | rfl | rfl | rfl
    · exact ⟨(by decide : ([baseB, sizeB, nodeB] : List ByteArray).Nodup), List.mem_cons_self⟩
    · exact ⟨(by decide : ([sizeB, nodeB, latencyB] : List ByteArray).Nodup), List.mem_cons_self⟩
    · exact ⟨(by decide : ([nodeB, latencyB, baseB] : List ByteArray).Nodup), List.mem_cons_self⟩
    · exact ⟨(by decide : ([latencyB, baseB, sizeB] : List ByteArray).Nodup), List.mem_cons_self⟩
  obtain ⟨j, hj, hA⟩ := attrP_dup (e := e) (names := names4) (attr_rd hm _ (pick_mem true)).2 h5 (fun a ha => attr_rd hm a (by
    simp only [List.mem_cons, List.not_mem_nil, or_false] at ha
    rcases ha with q | q | q <;> (rw [q]; exact pick_mem true))) hnd.1 hnd.2
  rw [hw_err h0 hn hA]
  refine ⟨rfl, ?_⟩
  show (posOf ts j e).Line = 1
  unfold posOf
  rw [List.getElem?_eq_getElem hj]
  exact h2 _ (List.getElem_mem hj)
theorem order_few {toks : List Tok} {m : MemT} {k : Nat} (hk : k < 4) (hm : (Ent.mem m).ok) (ht : toks.map tri = formatT (hOf m)) (hin : ∀ t ∈ toks, TokIn t) (hl : (layT (missU toks k false)).length ≤ 65536) : (parseS (mkB (layT (missU toks k false)))).2.2 = 50 := by
  obtain ⟨ts, h1, h2, h3⟩ := parse_lay2 (miss_in hin) hl
  rw [miss_tri hk false ht] at h1
  have hn := (name_word hm.1).2
  rw [h3]
  generalize endP (mkB (layT (missU toks k false))) = e
  have h0 : Fol ts 0 (hd6 m ++ ((pick4 m k false 1 :: pick4 m k false 2 :: [pick4 m k false 3]).flatMap attrT ++ [clT, clT])) := h1
  have h5 : Fol ts 5 (attrsT (pick4 m k false 1 :: pick4 m k false 2 :: [pick4 m k false 3]) ++ [clT]) := by
    have g : Fol ts 0 ([(1, machineB, 0), (3, nmB, 0), (4, mkB [123], 0), (1, memoryB, 0), (1, m.Name, 0)] ++ (attrsT (pick4 m k false 1 :: pick4 m k false 2 :: [pick4 m k false 3]) ++ [clT])) := by
      have hE : [(1, machineB, 0), (3, nmB, 0), (4, mkB [123], 0), (1, memoryB, 0), (1, m.Name, 0)] ++ (attrsT (pick4 m k false 1 :: pick4 m k false 2 :: [pick4 m k false 3]) ++ [clT]) = hd6 m ++ ((pick4 m k false 1 :: pick4 m k false 2 :: [pick4 m k false 3]).flatMap attrT ++ [clT, clT]) := by
        unfold attrsT hd6; simp
      rw [hE]; exact h0
    exact Fol.skip g
  have hnd : ((pick4 m k false 1 :: pick4 m k false 2 :: [pick4 m k false 3]).map (·.1)).Nodup := by
    rcases (show k = 0 ∨ k = 1 ∨ k = 2 ∨ k = 3 by omega) with rfl | rfl | rfl | rfl
    · exact (by decide : ([sizeB, nodeB, latencyB] : List ByteArray).Nodup)
    · exact (by decide : ([nodeB, latencyB, baseB] : List ByteArray).Nodup)
    · exact (by decide : ([latencyB, baseB, sizeB] : List ByteArray).Nodup)
    · exact (by decide : ([baseB, sizeB, nodeB] : List ByteArray).Nodup)
  obtain ⟨p, hA⟩ := attrP_few (e := e) (names := names4) h5 (fun a ha => attr_rd hm a (by
    simp only [List.mem_cons, List.not_mem_nil, or_false] at ha
    rcases ha with q | q | q <;> (rw [q]; exact pick_mem false))) hnd (by simp)
  rw [hw_err h0 hn hA]
/-- The new texts are short. -/
theorem layT_app_le : ∀ (a b : List Tok), (layT (a ++ b)).length ≤ (layT a).length + (layT b).length + 1
  | [], b => by simp [layT]
  | [t], [] => by show (txtT t).length ≤ (txtT t).length + 0 + 1; omega
  | [t], u :: b => by
    show (txtT t ++ 32 :: layT (u :: b)).length ≤ (txtT t).length + (layT (u :: b)).length + 1
    simp only [List.length_append, List.length_cons]; omega
  | t :: u :: a, b => by
    have := layT_app_le (u :: a) b
    show (txtT t ++ 32 :: layT (u :: a ++ b)).length ≤ (txtT t ++ 32 :: layT (u :: a)).length + (layT b).length + 1
    simp only [List.length_append, List.length_cons] at this ⊢; omega
theorem layT_sum {c : Nat} : ∀ (a : List Tok), (∀ t ∈ a, (txtT t).length ≤ c) → (layT a).length ≤ a.length * (c + 1)
  | [], _ => by simp [layT]
  | [t], h => by have := h t (by simp); show (txtT t).length ≤ _; simp; omega
  | t :: u :: a, h => by
    have h1 := layT_sum (u :: a) fun x hx => h x (List.mem_cons_of_mem _ hx)
    have h2 := h t (by simp)
    show (txtT t ++ 32 :: layT (u :: a)).length ≤ _
    simp only [List.length_append, List.length_cons, Nat.add_mul] at h1 ⊢
    omega
theorem turn_len (toks : List Tok) (k : Nat) (drop : Bool) : (turnU toks k drop).length ≤ 18 + toks.length := by
  unfold turnU turned
  simp only [List.length_append, List.length_take, List.length_drop]
  have : ((List.range 4).flatMap fun j => (toks.drop (atN k drop j)).take 3).length ≤ 12 := by
    show (List.flatMap _ [0, 1, 2, 3]).length ≤ 12
    simp only [List.flatMap_cons, List.flatMap_nil, List.length_append, List.length_take, List.length_nil]
    omega
  omega
theorem turn_mem {toks : List Tok} {k : Nat} {drop : Bool} : ∀ t ∈ turnU toks k drop, t ∈ toks := fun t ht => by
  unfold turnU turned at ht
  rcases List.mem_append.1 ht with ht | ht
  · rcases List.mem_append.1 ht with ht | ht
    · exact List.mem_of_mem_take ht
    · obtain ⟨j, -, hj⟩ := List.mem_flatMap.1 ht
      exact List.mem_of_mem_drop (List.mem_of_mem_take hj)
  · exact List.mem_of_mem_drop ht
theorem miss_mem {toks : List Tok} {k : Nat} {drop : Bool} : ∀ t ∈ missU toks k drop, t ∈ toks := fun t ht => by
  unfold missU at ht
  rcases List.mem_append.1 ht with ht | ht
  · exact turn_mem t (List.mem_of_mem_take ht)
  · exact turn_mem t (List.mem_of_mem_drop ht)
end Go.Proofs.YtimbobmmijgkiaaGreatDoor
end
/- hwdesc.Format walked (printed by a program). -/
section
open Go Mk
namespace Go.Proofs.YtimbobmmijgkiaaGreatDoor
set_option maxHeartbeats 16000000
attribute [local irreducible] Calls

def coreTx (c : CoreT) : List UInt8 := itemL (coreHd c) (coreXs c)
def cacheTx (c : CacheT) : List UInt8 := itemL (cacheHd c) (cacheXs c)
def linkTx (c : LinkT) : List UInt8 := itemL (linkHd c) (linkXs c)
def memTx (c : MemT) : List UInt8 := itemL (memHd c) (memXs c)
def devTx (c : DevT) : List UInt8 := itemL (devHd c) (devXs c)
def headTx (H : HwT) : List UInt8 := bts machineB ++ 32 :: 34 :: (bts H.Name ++ [34, 32, 123, 10])
abbrev tA (H : HwT) : List UInt8 := headTx H ++ H.Cores.flatMap coreTx
abbrev tB (H : HwT) : List UInt8 := tA H ++ H.Caches.flatMap cacheTx
abbrev tC (H : HwT) : List UInt8 := tB H ++ H.Links.flatMap linkTx
abbrev tD (H : HwT) : List UInt8 := tC H ++ H.Mems.flatMap memTx
abbrev tE (H : HwT) : List UInt8 := tD H ++ H.Devs.flatMap devTx
theorem format_tx (H : HwT) : formatL H = tE H ++ [125, 10] := by
  unfold formatL entsOf tE tD tC tB tA headTx
  simp only [List.flatMap_append, List.flatMap_map, core_txt, cache_txt, link_txt, mem_txt, dev_txt]
  show _ = (((((bts machineB ++ 32 :: 34 :: (bts H.Name ++ [34, 32, 123, 10])) ++ H.Cores.flatMap coreTx) ++ H.Caches.flatMap cacheTx) ++ H.Links.flatMap linkTx) ++ H.Mems.flatMap memTx) ++ H.Devs.flatMap devTx ++ [125, 10]
  simp only [List.append_assoc, List.cons_append, List.nil_append]
  rfl
theorem fl_le {α : Type} {f : α → List UInt8} {c : Nat} : ∀ (l : List α) (k : Nat), (∀ x ∈ l, (f x).length ≤ c) → ((l.take k).flatMap f).length ≤ l.length * c
  | [], _, _ => by simp
  | x :: l, 0, _ => by simp
  | x :: l, k + 1, h => by
    have h1 := fl_le l k fun y hy => h y (List.mem_cons_of_mem _ hy)
    have h2 := h x List.mem_cons_self
    rw [List.take_succ_cons, List.flatMap_cons, List.length_append, List.length_cons, Nat.add_mul]; omega
theorem fl_step {α : Type} {f : α → List UInt8} {l : List α} {k : Nat} {x : α} (h : l[k]? = some x) : (l.take (k + 1)).flatMap f = (l.take k).flatMap f ++ f x := by
  rw [List.take_add_one, h, List.flatMap_append]; simp
theorem itemL_len {hd : ByteArray} {xs : List ByteArray} (h1 : hd.size ≤ 1000) (h2 : ∀ s ∈ xs, s.size ≤ 1000) (h3 : xs.length ≤ 8) : (itemL hd xs).length ≤ 10000 := by
  have h4 := pairsL_len xs h2
  have h5 : (bts hd).length = hd.size := bts_len _
  unfold itemL
  simp only [List.length_cons, List.length_append, List.length_nil, h5]
  omega
theorem dec_small {n : Int} (h : smallI n) : (decB n.toNat).size ≤ 20 := decB_len (by unfold smallI at h; omega)
theorem dec_wide {n : Int} (h : wideI n) : (decB n.toNat).size ≤ 20 := decB_len (by unfold wideI at h; omega)
theorem pg_it {Γ : Gho} [hT : TabG Γ] {n : Int} (h : smallI n) : PG Tryz.prog Γ 35 [.int .i64 n] (.string (decB n.toNat)) := pg_itoa h.1 (by unfold smallI at h; omega)
theorem pg_w {Γ : Gho} [hT : TabG Γ] {n : Int} (h : wideI n) : PG Tryz.prog Γ 36 [.int .u64 n] (.string (decB n.toNat)) := pg_u h.1 h.2
section
theorem all8 {P : ByteArray → Prop} {l : List ByteArray} (h : ∀ s ∈ l, P s) : ∀ s ∈ l, P s := h
theorem core_sz {c : CoreT} (h : (Ent.core c).ok) : (coreHd c).size ≤ 1000 ∧ ∀ s ∈ coreXs c, s.size ≤ 1000 := by
  obtain ⟨h1, h2, h3, h4⟩ := h
  have := dec_small h1
  have := dec_small h2
  have := dec_small h3
  have := dec_small h4
  refine ⟨by rw [ByteArray.size_append]; have : (⟨#[99, 111, 114, 101, 32]⟩ : ByteArray).size = 5 := rfl; omega, fun s hs => ?_⟩
  simp only [coreXs, List.mem_cons, List.not_mem_nil, or_false] at hs
  rcases hs with rfl | rfl | rfl | rfl | rfl | rfl <;> first | omega | decide
theorem cache_sz {c : CacheT} (h : (Ent.cache c).ok) (hl : c.Cores.length ≤ 40) : (cacheHd c).size ≤ 1000 ∧ (∀ s ∈ cacheXs c, s.size ≤ 1000) ∧ ∀ s ∈ c.Cores.map (fun n => decB n.toNat), s.size ≤ 20 := by
  obtain ⟨h1, h2, h3, h4, h5, h6⟩ := h
  have := dec_small h2
  have := dec_small h3
  have := dec_wide h4
  have h7 := (name_word h1).2
  have h8 : ∀ s ∈ c.Cores.map (fun n => decB n.toNat), s.size ≤ 20 := fun s hs => by
    obtain ⟨n, hn, rfl⟩ := List.mem_map.1 hs
    exact dec_small (h6 n hn)
  have h9 := join_len _ h8
  rw [List.length_map] at h9
  refine ⟨by rw [ByteArray.size_append]; have : (⟨#[99, 97, 99, 104, 101, 32]⟩ : ByteArray).size = 6 := rfl; omega, fun s hs => ?_, h8⟩
  simp only [cacheXs, List.mem_cons, List.not_mem_nil, or_false] at hs
  rcases hs with rfl | rfl | rfl | rfl | rfl | rfl | rfl | rfl <;> first | omega | decide
theorem link_sz {c : LinkT} (h : (Ent.link c).ok) : (linkHd c).size ≤ 1000 ∧ ∀ s ∈ linkXs c, s.size ≤ 1000 := by
  obtain ⟨h1, h2, h3⟩ := h
  have := dec_small h1
  have := dec_small h2
  have := dec_small h3
  refine ⟨by simp only [ByteArray.size_append]; have : (⟨#[108, 105, 110, 107, 32]⟩ : ByteArray).size = 5 := rfl; have : (⟨#[32]⟩ : ByteArray).size = 1 := rfl; omega, fun s hs => ?_⟩
  simp only [linkXs, List.mem_cons, List.not_mem_nil, or_false] at hs
  rcases hs with rfl | rfl <;> first | omega | decide
theorem mem_sz {c : MemT} (h : (Ent.mem c).ok) : (memHd c).size ≤ 1000 ∧ ∀ s ∈ memXs c, s.size ≤ 1000 := by
  obtain ⟨h1, h2, h3, h4, h5⟩ := h
  have := dec_wide h2
  have := dec_wide h3
  have := dec_small h4
  have := dec_small h5
  have h7 := (name_word h1).2
  refine ⟨by rw [ByteArray.size_append]; have : (⟨#[109, 101, 109, 111, 114, 121, 32]⟩ : ByteArray).size = 7 := rfl; omega, fun s hs => ?_⟩
  simp only [memXs, List.mem_cons, List.not_mem_nil, or_false] at hs
  rcases hs with rfl | rfl | rfl | rfl | rfl | rfl | rfl | rfl <;> first | omega | decide
theorem dev_sz {c : DevT} (h : (Ent.dev c).ok) : (devHd c).size ≤ 1000 ∧ ∀ s ∈ devXs c, s.size ≤ 1000 := by
  obtain ⟨h1, h2, h3, h4, h5⟩ := h
  have := dec_small h2
  have := dec_small h3
  have := dec_wide h4
  have := dec_wide h5
  have h7 := (name_word h1).2
  refine ⟨by rw [ByteArray.size_append]; have : (⟨#[100, 101, 118, 105, 99, 101, 32]⟩ : ByteArray).size = 7 := rfl; omega, fun s hs => ?_⟩
  simp only [devXs, List.mem_cons, List.not_mem_nil, or_false] at hs
  rcases hs with rfl | rfl | rfl | rfl | rfl | rfl | rfl | rfl <;> first | omega | decide
end
theorem FormatH_any {Γ : Gho} [hT : TabG Γ] {u : Value} {H : HwT} [hh : HwQ Γ u H] (hm : HwSm H) (hwd : HwWide H) {S : List Res} {w : World} (hw : Wd Γ S w) :
    Calls Tryz.prog 13 #[u] w fun e w' => e = .returned (.string (formatS H)) ∧ Wd Γ S w' := by
  obtain ⟨a1, n1, c1, a2, n2, c2, a3, n3, c3, a4, n4, c4, a5, n5, c5, cs, rfl, hcs, hok, r1, r2, r3, r4, r5⟩ := hh.h
  haveI hPG : PG Tryz.prog Γ 33 [.agg #[.string H.Name, .slice a1 n1 c1, .slice a2 n2 c2, .slice a3 n3 c3, .slice a4 n4 c4, .slice a5 n5 c5]] (.bool (printB H)) := ⟨fun S w hw => printable_any (hh := hh) hm hw⟩
  obtain ⟨f1, -, -⟩ := rep_facts r1
  obtain ⟨f2, -, -⟩ := rep_facts r2
  obtain ⟨f3, -, -⟩ := rep_facts r3
  obtain ⟨f4, -, -⟩ := rep_facts r4
  obtain ⟨f5, -, -⟩ := rep_facts r5
  simp only [List.length_map] at f1 f2 f3 f4 f5
  have hcl : cs.length = H.Caches.length := by rw [← hcs, List.length_map]
  have m1 := hm.c
  have m2 := hm.h
  have m3 := hm.l
  have m4 := hm.m
  have m5 := hm.d
  have m6 := hm.n
  refine calls_of_W Tryz.func13 rfl rfl ?_
  repeat (first | refine byW ?_ | (refine byV ?_; intro w hw))
  refine lBox ?_
  intro b1 w hw
  have hw : Wd Γ (.blk b1 (hwC H a1 n1 c1 a2 n2 c2 a3 n3 c3 a4 n4 c4 a5 n5 c5) :: S) w := hw
  repeat (first | refine byW ?_ | (refine byV ?_; intro w hw))
  refine W_cond rfl (fun h => ?_) (fun h => ?_)
  · have h : printB H = false := by simpa using h
    repeat (first | refine byW ?_ | (refine byV ?_; intro w hw))
    have hE : formatS H = ⟨#[]⟩ := by unfold formatS; rw [if_neg (by rw [h]; decide)]
    rw [hE]
    exact ⟨_, rfl, rfl, hw.drop⟩
  have h : printB H = true := by simpa using h
  have hE : formatS H = mkB (tE H ++ [125, 10]) := by unfold formatS; rw [if_pos h, format_tx]
  rw [hE]
  have hP := (printB_iff hwd).1 h
  clear hE h hPG
  obtain ⟨-, -, hents⟩ := hP
  have oc : ∀ c ∈ H.Cores, (Ent.core c).ok := fun c hc => hents _ (by unfold entsOf; simp [hc])
  have oh : ∀ c ∈ H.Caches, (Ent.cache c).ok := fun c hc => hents _ (by unfold entsOf; simp [hc])
  have ol : ∀ c ∈ H.Links, (Ent.link c).ok := fun c hc => hents _ (by unfold entsOf; simp [hc])
  have om : ∀ c ∈ H.Mems, (Ent.mem c).ok := fun c hc => hents _ (by unfold entsOf; simp [hc])
  have od : ∀ c ∈ H.Devs, (Ent.dev c).ok := fun c hc => hents _ (by unfold entsOf; simp [hc])
  clear hents
  have b1' : ∀ k, ((H.Cores.take k).flatMap coreTx).length ≤ 400000 := fun k => Nat.le_trans (fl_le (c := 10000) H.Cores k fun x hx => itemL_len (core_sz (oc x hx)).1 (core_sz (oc x hx)).2 (by simp)) (by omega)
  have b2' : ∀ k, ((H.Caches.take k).flatMap cacheTx).length ≤ 700000 := fun k => Nat.le_trans (fl_le (c := 10000) H.Caches k fun x hx => itemL_len (cache_sz (oh x hx) (hm.hs x hx).2).1 (cache_sz (oh x hx) (hm.hs x hx).2).2.1 (by simp)) (by omega)
  have b3' : ∀ k, ((H.Links.take k).flatMap linkTx).length ≤ 2600000 := fun k => Nat.le_trans (fl_le (c := 10000) H.Links k fun x hx => itemL_len (link_sz (ol x hx)).1 (link_sz (ol x hx)).2 (by simp)) (by omega)
  have b4' : ∀ k, ((H.Mems.take k).flatMap memTx).length ≤ 700000 := fun k => Nat.le_trans (fl_le (c := 10000) H.Mems k fun x hx => itemL_len (mem_sz (om x hx)).1 (mem_sz (om x hx)).2 (by simp)) (by omega)
  have b5' : ∀ k, ((H.Devs.take k).flatMap devTx).length ≤ 400000 := fun k => Nat.le_trans (fl_le (c := 10000) H.Devs k fun x hx => itemL_len (dev_sz (od x hx)).1 (dev_sz (od x hx)).2 (by simp)) (by omega)
  have t1' : (H.Cores.flatMap coreTx).length ≤ 400000 := by have := b1' H.Cores.length; rwa [List.take_length] at this
  have t2' : (H.Caches.flatMap cacheTx).length ≤ 700000 := by have := b2' H.Caches.length; rwa [List.take_length] at this
  have t3' : (H.Links.flatMap linkTx).length ≤ 2600000 := by have := b3' H.Links.length; rwa [List.take_length] at this
  have t4' : (H.Mems.flatMap memTx).length ≤ 700000 := by have := b4' H.Mems.length; rwa [List.take_length] at this
  have t5' : (H.Devs.flatMap devTx).length ≤ 400000 := by have := b5' H.Devs.length; rwa [List.take_length] at this
  have u0 : (headTx H).length ≤ 1000 := by
    unfold headTx
    have e1 : (bts machineB).length = 7 := rfl
    have e2 : (bts H.Name).length = H.Name.size := bts_len _
    simp only [List.length_append, List.length_cons, List.length_nil, e1, e2]; omega
  have u1 : (tA H).length ≤ 500000 := by show List.length (_ ++ _) ≤ _; rw [List.length_append]; omega
  have u2 : (tB H).length ≤ 1300000 := by show List.length (_ ++ _) ≤ _; rw [List.length_append]; omega
  have u3 : (tC H).length ≤ 4000000 := by show List.length (_ ++ _) ≤ _; rw [List.length_append]; omega
  have u4 : (tD H).length ≤ 5000000 := by show List.length (_ ++ _) ≤ _; rw [List.length_append]; omega
  have u5 : (tE H).length ≤ 6000000 := by show List.length (_ ++ _) ≤ _; rw [List.length_append]; omega
  repeat (first | refine byW ?_ | (refine byV ?_; intro w hw))
  refine lAlloc ?_
  intro b3 w hw
  have hw := bld_new hw
  have z1 : (⟨#[109, 97, 99, 104, 105, 110, 101, 32, 34]⟩ : ByteArray).size = 9 := rfl
  have z2 : (⟨#[34, 32, 123, 10]⟩ : ByteArray).size = 4 := rfl
  have z3 : (⟨#[125, 10]⟩ : ByteArray).size = 2 := rfl
  have sa := ByteArray.size_append (a := (⟨#[109, 97, 99, 104, 105, 110, 101, 32, 34]⟩ : ByteArray)) (b := H.Name)
  repeat (first | refine byW ?_ | (refine byV ?_; intro w hw))
  refine lCall (vs := [.pointer (some ⟨b3, 0, none⟩), .string (((⟨#[109, 97, 99, 104, 105, 110, 101, 32, 34]⟩ : ByteArray) ++ H.Name) ++ (⟨#[34, 32, 123, 10]⟩ : ByteArray))]) ?_
  refine (WriteString_any _ (by simp only [ByteArray.size_append, List.length_nil]; omega) hw).mono ?_
  clear hw
  rintro e w ⟨rfl, hw⟩
  refine ⟨_, rfl, ?_⟩
  have hd : [] ++ (((⟨#[109, 97, 99, 104, 105, 110, 101, 32, 34]⟩ : ByteArray) ++ H.Name) ++ (⟨#[34, 32, 123, 10]⟩ : ByteArray)).data.toList = headTx H := by
    rw [List.nil_append]
    show bts (((⟨#[109, 97, 99, 104, 105, 110, 101, 32, 34]⟩ : ByteArray) ++ H.Name) ++ (⟨#[34, 32, 123, 10]⟩ : ByteArray)) = _
    rw [bts_ap, bts_ap]
    unfold headTx
    show ([109, 97, 99, 104, 105, 110, 101, 32, 34] ++ bts H.Name) ++ [34, 32, 123, 10] = [109, 97, 99, 104, 105, 110, 101] ++ 32 :: 34 :: (bts H.Name ++ [34, 32, 123, 10])
    simp
  rw [hd] at hw
  clear hd sa
  have y1 : (⟨#[99, 111, 114, 101, 32]⟩ : ByteArray).size = 5 := rfl
  have y2 : (⟨#[99, 97, 99, 104, 101, 32]⟩ : ByteArray).size = 6 := rfl
  have y3 : (⟨#[108, 105, 110, 107, 32]⟩ : ByteArray).size = 5 := rfl
  have y4 : (⟨#[109, 101, 109, 111, 114, 121, 32]⟩ : ByteArray).size = 7 := rfl
  have y5 : (⟨#[100, 101, 118, 105, 99, 101, 32]⟩ : ByteArray).size = 7 := rfl
  have y6 : (⟨#[32]⟩ : ByteArray).size = 1 := rfl
  repeat (first | refine byW ?_ | (refine byV ?_; intro w hw))
  refine W_loop (fun μ ρ w => ∃ (k : Nat), μ + k = n1 ∧ Has ρ [(1, .pointer (some ⟨b1, 0, none⟩)), (3, .pointer (some ⟨b3, 0, none⟩)), (4, .func (.func 34) #[] #[.pointer (some ⟨b3, 0, none⟩)]), (5, .func (.func 35) #[] #[]), (6, .func (.func 36) #[] #[]), (30, .slice a1 n1 c1), (31, .int .i64 n1), (32, .int .i64 k)] ∧ Wd Γ (bldR b3 (headTx H ++ (H.Cores.take k).flatMap coreTx) :: .blk b1 (hwC H a1 n1 c1 a2 n2 c2 a3 n3 c3 a4 n4 c4 a5 n5 c5) :: S) w) n1 ⟨0, by omega, ⟨rfl, rfl, rfl, rfl, rfl, rfl, rfl, rfl, trivial⟩, by simpa using hw⟩ ?_
  clear hw
  rintro μ ρ w ⟨k, hk, hρ, hw⟩
  rw [hρ.eq]
  have bk := b1' k
  repeat (first | refine byW ?_ | (refine byV ?_; intro w hw))
  refine W_cond rfl (fun h => ?_) (fun h => ?_)
  · have hkn : k < n1 := by have := of_decide_eq_true h; omega
    clear h
    obtain ⟨x, hx⟩ := get_lt (l := H.Cores) (k := k) (by omega)
    have hxo := oc x (List.mem_of_getElem? hx)
    have hsz := core_sz hxo
    obtain ⟨o1, o2, o3, o4⟩ := hxo
    have i1 := pg_it (Γ := Γ) o1
    have i2 := pg_it (Γ := Γ) o2
    have i3 := pg_it (Γ := Γ) o3
    have i4 := pg_it (Γ := Γ) o4
    have s1 := dec_small o1
    repeat (first | refine byW ?_ | (refine byV ?_; intro w hw))
    refine lAlloc ?_
    intro b6 w hw
    refine lStore ?_
    intro w hw
    have hw : Wd Γ (.blk b6 (.cells (enc x).toArray 77) :: bldR b3 (headTx H ++ (H.Cores.take k).flatMap coreTx) :: .blk b1 (hwC H a1 n1 c1 a2 n2 c2 a3 n3 c3 a4 n4 c4 a5 n5 c5) :: S) w := hw
    repeat (first | refine byW ?_ | (refine byV ?_; intro w hw))
    refine W_mixC [.blk b6 (.cells (enc x).toArray 77)] (bldR b3 (headTx H ++ (H.Cores.take k).flatMap coreTx) :: .blk b1 (hwC H a1 n1 c1 a2 n2 c2 a3 n3 c3 a4 n4 c4 a5 n5 c5) :: S) [54] [[],[],[],[],[],[],[],[],[],[],[],[],[],[],[],[],[],[],[0],[0]] hw ?_
    repeat (first | refine mY ?_ | refine mPgv ?_)
    refine mStepX (φ := fun (_ : Unit) _ => True) (R := fun _ => bldR b3 (headTx H ++ (H.Cores.take k).flatMap coreTx) :: .blk b1 (hwC H a1 n1 c1 a2 n2 c2 a3 n3 c3 a4 n4 c4 a5 n5 c5) :: S) (v := undef) (T' := Value) (fun t g => g 54 = t) (fun t => .own t 9 1 (nRows (coreXs x)) :: bldR b3 (headTx H ++ (H.Cores.take k).flatMap coreTx) :: .blk b1 (hwC H a1 n1 c1 a2 n2 c2 a3 n3 c3 a4 n4 c4 a5 n5 c5) :: S) (fun t g w Y ht hw => s_buildSlice (rws := nRows (coreXs x)) (cells := (nRows (coreXs x)).flatten) hw rfl rfl rfl (by simp [nRows]) (by decide) fun q w' hw' => ⟨_, rfl, (fun h => by cases h), hw'⟩) ?_
    refine mStepX (φ := fun (t : Value) g => g 54 = t) (R := fun t => .own t 9 1 (nRows (coreXs x)) :: bldR b3 (headTx H ++ (H.Cores.take k).flatMap coreTx) :: .blk b1 (hwC H a1 n1 c1 a2 n2 c2 a3 n3 c3 a4 n4 c4 a5 n5 c5) :: S) (v := .tuple #[]) (T' := Unit) (fun _ _ => True) (fun _ => bldR b3 ((headTx H ++ (H.Cores.take k).flatMap coreTx) ++ coreTx x) :: .blk b1 (hwC H a1 n1 c1 a2 n2 c2 a3 n3 c3 a4 n4 c4 a5 n5 c5) :: S) (fun t g w Y ht hw => ?_) ?_
    · obtain ⟨d1, e1, z1, rfl, hn1, hc1, hc2⟩ := hw.own_shape (i := 0) rfl
      have hw2 : Wd Γ (bldR b3 (headTx H ++ (H.Cores.take k).flatMap coreTx) :: .own (.slice d1 e1 z1) 9 1 (nRows (coreXs x)) :: ((.blk b1 (hwC H a1 n1 c1 a2 n2 c2 a3 n3 c3 a4 n4 c4 a5 n5 c5) :: S) ++ ([.blk b6 (.cells (enc x).toArray 77)] ++ Y))) w := hw.ps [1]
      refine s_callv (f := 34) (fst := #[]) (vs := #[.string (coreHd x), .slice d1 e1 z1]) (cap := #[.pointer (some ⟨b3, 0, none⟩)]) rfl (EvL.eqA (EvL.cons rfl (EvL.cons ht EvL.nil))) ?_
      refine (itemF_any (m := 3) (coreHd x) (coreXs x) hsz.1 hsz.2 rfl (by decide) (RdS.ownI (i := 0) rfl hn1 hc1 hc2) (by simp only [List.length_append]; omega) hw2).mono ?_
      rintro e w' ⟨rfl, hw3⟩
      exact ⟨_, rfl, (), trivial, (fun _ => rfl), hw3.dropAt 1⟩
    refine mEndX fun t w g _ hw => ?_
    have hw : Wd Γ ((bldR b3 ((headTx H ++ (H.Cores.take k).flatMap coreTx) ++ coreTx x) :: .blk b1 (hwC H a1 n1 c1 a2 n2 c2 a3 n3 c3 a4 n4 c4 a5 n5 c5) :: S) ++ [.blk b6 (.cells (enc x).toArray 77)]) w := hw
    have hw : Wd Γ (bldR b3 ((headTx H ++ (H.Cores.take k).flatMap coreTx) ++ coreTx x) :: .blk b1 (hwC H a1 n1 c1 a2 n2 c2 a3 n3 c3 a4 n4 c4 a5 n5 c5) :: S) w := Wd.left hw
    repeat (first | refine byW ?_ | (refine byV ?_; intro w hw))
    refine ⟨μ - 1, by omega, k + 1, by omega, ⟨rfl, rfl, rfl, rfl, rfl, rfl, rfl, rfl, trivial⟩, ?_⟩
    rw [fl_step hx, ← List.append_assoc]
    exact hw
  have hkn : n1 ≤ k := by have := of_decide_eq_false h; omega
  clear h
  rw [List.take_of_length_le (l := H.Cores) (i := k) (by omega)] at hw
  clear hk hρ
  repeat (first | refine byW ?_ | (refine byV ?_; intro w hw))
  refine W_loop (fun μ ρ w => ∃ (k : Nat), μ + k = n2 ∧ Has ρ [(1, .pointer (some ⟨b1, 0, none⟩)), (3, .pointer (some ⟨b3, 0, none⟩)), (4, .func (.func 34) #[] #[.pointer (some ⟨b3, 0, none⟩)]), (5, .func (.func 35) #[] #[]), (6, .func (.func 36) #[] #[]), (58, .slice a2 n2 c2), (59, .int .i64 n2), (60, .int .i64 k)] ∧ Wd Γ (bldR b3 (tA H ++ (H.Caches.take k).flatMap cacheTx) :: .blk b1 (hwC H a1 n1 c1 a2 n2 c2 a3 n3 c3 a4 n4 c4 a5 n5 c5) :: S) w) n2 ⟨0, by omega, ⟨rfl, rfl, rfl, rfl, rfl, rfl, rfl, rfl, trivial⟩, by simpa using hw⟩ ?_
  clear hw
  rintro μ ρ w ⟨k, hk, hρ, hw⟩
  rw [hρ.eq]
  have bk := b2' k
  repeat (first | refine byW ?_ | (refine byV ?_; intro w hw))
  refine W_cond rfl (fun h => ?_) (fun h => ?_)
  · have hkn : k < n2 := by have := of_decide_eq_true h; omega
    clear h
    obtain ⟨x, hx⟩ := get_lt (l := cs) (k := k) (by omega)
    obtain ⟨g1, g2, g3⟩ := (hok x (List.mem_of_getElem? hx)).facts
    have hxT : H.Caches[k]? = some x.T := by rw [← hcs, List.getElem?_map, hx]; rfl
    have hxm := List.mem_of_getElem? hxT
    have hxs := (hm.hs x.T hxm).2
    have hxs : x.Cores.length ≤ 40 := hxs
    have hrd : RepS Γ (.slice x.A x.N x.C) 1 (intRows x.Cores) := hok x (List.mem_of_getElem? hx)
    have hxo := oh x.T hxm
    obtain ⟨hs1, hs2, hs3⟩ := cache_sz hxo hxs
    obtain ⟨o1, o2, o3, o4, o5, o6⟩ := hxo
    have i2 : PG Tryz.prog Γ 35 [.int .i64 x.Level] (.string (decB x.Level.toNat)) := pg_it o2
    have i3 : PG Tryz.prog Γ 35 [.int .i64 x.Line] (.string (decB x.Line.toNat)) := pg_it o3
    have i4 : PG Tryz.prog Γ 36 [.int .u64 x.Size] (.string (decB x.Size.toNat)) := pg_w o4
    have nsz : x.Name.size ≤ 24 := (name_word o1).2
    repeat (first | refine byW ?_ | (refine byV ?_; intro w hw))
    refine lAlloc ?_
    intro b10 w hw
    refine lStore ?_
    intro w hw
    have hw : Wd Γ (.blk b10 (.cells (cC x).toArray 79) :: bldR b3 (tA H ++ (H.Caches.take k).flatMap cacheTx) :: .blk b1 (hwC H a1 n1 c1 a2 n2 c2 a3 n3 c3 a4 n4 c4 a5 n5 c5) :: S) w := hw
    repeat (first | refine byW ?_ | (refine byV ?_; intro w hw))
    refine lMakeSlice (len := x.N) ?_
    intro a11 w hw
    have hw : Wd Γ (.own (.slice (some a11) x.N x.N) 9 1 (nRows (List.replicate x.N ⟨#[]⟩)) :: .blk b10 (.cells (cC x).toArray 79) :: bldR b3 (tA H ++ (H.Caches.take k).flatMap cacheTx) :: .blk b1 (hwC H a1 n1 c1 a2 n2 c2 a3 n3 c3 a4 n4 c4 a5 n5 c5) :: S) w := by
      rw [show nRows (List.replicate x.N ⟨#[]⟩) = List.replicate x.N [.string ⟨#[]⟩] from List.map_replicate]
      exact hw
    repeat (first | refine byW ?_ | (refine byV ?_; intro w hw))
    refine W_cutB (fun ρ w => ∃ ss : List ByteArray, Has ρ [(1, .pointer (some ⟨b1, 0, none⟩)), (3, .pointer (some ⟨b3, 0, none⟩)), (4, .func (.func 34) #[] #[.pointer (some ⟨b3, 0, none⟩)]), (5, .func (.func 35) #[] #[]), (6, .func (.func 36) #[] #[]), (10, .pointer (some ⟨b10, 0, none⟩)), (11, .slice (some a11) x.N x.N), (58, .slice a2 n2 c2), (59, .int .i64 n2), (60, .int .i64 k)] ∧ ss = x.Cores.map (fun n => decB n.toNat) ∧ Wd Γ (.own (.slice (some a11) x.N x.N) 9 1 (nRows ss) :: .blk b10 (.cells (cC x).toArray 79) :: bldR b3 (tA H ++ (H.Caches.take k).flatMap cacheTx) :: .blk b1 (hwC H a1 n1 c1 a2 n2 c2 a3 n3 c3 a4 n4 c4 a5 n5 c5) :: S) w) ?_ ?_
    · repeat (first | refine byW ?_ | (refine byV ?_; intro w hw))
      refine W_loop (fun μ ρ w => ∃ (j : Nat) (ss : List ByteArray), μ + j = x.N ∧ Has ρ [(1, .pointer (some ⟨b1, 0, none⟩)), (3, .pointer (some ⟨b3, 0, none⟩)), (4, .func (.func 34) #[] #[.pointer (some ⟨b3, 0, none⟩)]), (5, .func (.func 35) #[] #[]), (6, .func (.func 36) #[] #[]), (10, .pointer (some ⟨b10, 0, none⟩)), (11, .slice (some a11) x.N x.N), (58, .slice a2 n2 c2), (59, .int .i64 n2), (60, .int .i64 k), (69, .slice x.A x.N x.C), (70, .int .i64 x.N), (71, .int .i64 j)] ∧ ss.length = x.N ∧ ss.take j = (x.Cores.take j).map (fun n => decB n.toNat) ∧ Wd Γ (.own (.slice (some a11) x.N x.N) 9 1 (nRows ss) :: .blk b10 (.cells (cC x).toArray 79) :: bldR b3 (tA H ++ (H.Caches.take k).flatMap cacheTx) :: .blk b1 (hwC H a1 n1 c1 a2 n2 c2 a3 n3 c3 a4 n4 c4 a5 n5 c5) :: S) w) x.N ⟨0, List.replicate x.N ⟨#[]⟩, by omega, ⟨rfl, rfl, rfl, rfl, rfl, rfl, rfl, rfl, rfl, rfl, rfl, rfl, rfl, trivial⟩, by simp, rfl, hw⟩ ?_
      clear hw hρ
      rintro μ2 ρ w ⟨j, ss, hj, hρ, hsl, hst, hw⟩
      rw [hρ.eq]
      repeat (first | refine byW ?_ | (refine byV ?_; intro w hw))
      refine W_cond rfl (fun h3 => ?_) (fun h3 => ?_)
      · have hjn : j < x.N := by have := of_decide_eq_true h3; omega
        obtain ⟨y, hy⟩ := get_lt (l := x.Cores) (k := j) (by omega)
        have iy := pg_it (Γ := Γ) (o6 y (List.mem_of_getElem? hy))
        repeat (first | refine byW ?_ | (refine byV ?_; intro w hw))
        refine lPgv iy ?_
        intro w hw
        repeat (first | refine byW ?_ | (refine byV ?_; intro w hw))
        refine lStoreE (i := 0) ?_
        intro w hw
        have hw : Wd Γ (.own (.slice (some a11) x.N x.N) 9 1 ((nRows ss).set j [.string (decB y.toNat)]) :: .blk b10 (.cells (cC x).toArray 79) :: bldR b3 (tA H ++ (H.Caches.take k).flatMap cacheTx) :: .blk b1 (hwC H a1 n1 c1 a2 n2 c2 a3 n3 c3 a4 n4 c4 a5 n5 c5) :: S) w := hw
        rw [show (nRows ss).set j [.string (decB y.toNat)] = nRows (ss.set j (decB y.toNat)) from by unfold nRows; rw [List.map_set]] at hw
        repeat (first | refine byW ?_ | (refine byV ?_; intro w hw))
        refine ⟨μ2 - 1, by omega, j + 1, ss.set j (decB y.toNat), by omega, ⟨rfl, rfl, rfl, rfl, rfl, rfl, rfl, rfl, rfl, rfl, rfl, rfl, rfl, trivial⟩, by rw [List.length_set]; exact hsl, ?_, hw⟩
        rw [List.take_add_one, List.take_set_of_le (Nat.le_refl _), hst, List.getElem?_set_self (by omega), List.take_add_one, hy, List.map_append]; rfl
      · have hjn : ¬ j < x.N := by have := of_decide_eq_false h3; omega
        rw [List.take_of_length_le (by omega), List.take_of_length_le (by omega)] at hst
        repeat (first | refine byW ?_ | (refine byV ?_; intro w hw))
        exact ⟨ss, ⟨rfl, rfl, rfl, rfl, rfl, rfl, rfl, rfl, rfl, rfl, trivial⟩, hst, hw⟩
    clear hw hρ
    rintro ρ w ⟨ss, hρ, rfl, hw⟩
    rw [hρ.eq]
    repeat (first | refine byW ?_ | (refine byV ?_; intro w hw))
    refine W_mixC [.own (.slice (some a11) x.N x.N) 9 1 (nRows (x.Cores.map fun n => decB n.toNat)), .blk b10 (.cells (cC x).toArray 79)] (bldR b3 (tA H ++ (H.Caches.take k).flatMap cacheTx) :: .blk b1 (hwC H a1 n1 c1 a2 n2 c2 a3 n3 c3 a4 n4 c4 a5 n5 c5) :: S) [101] [[],[],[],[],[],[],[],[],[],[],[],[],[],[],[],[],[],[],[0],[0]] hw ?_
    repeat (first | refine mY ?_ | refine mPgv ?_)
    refine mCallK (v := .string (joinB (x.Cores.map fun n => decB n.toNat))) (vs := [.slice (some a11) x.N x.N, .string sepB]) (fun Y w hw => Join_any (x.Cores.map fun n => decB n.toNat) (RdS.ownI (i := 0) rfl (by rw [nRows_len, List.length_map]; omega) (Nat.le_refl _) (by omega)) (by rw [List.length_map]; omega) (fun s hs => Nat.le_trans (hs3 s hs) (by omega)) hw) ?_
    refine mStepX (φ := fun (_ : Unit) _ => True) (R := fun _ => bldR b3 (tA H ++ (H.Caches.take k).flatMap cacheTx) :: .blk b1 (hwC H a1 n1 c1 a2 n2 c2 a3 n3 c3 a4 n4 c4 a5 n5 c5) :: S) (v := undef) (T' := Value) (fun t g => g 101 = t) (fun t => .own t 9 1 (nRows (cacheXs x.T)) :: bldR b3 (tA H ++ (H.Caches.take k).flatMap cacheTx) :: .blk b1 (hwC H a1 n1 c1 a2 n2 c2 a3 n3 c3 a4 n4 c4 a5 n5 c5) :: S) (fun t g w Y ht hw => s_buildSlice (rws := nRows (cacheXs x.T)) (cells := (nRows (cacheXs x.T)).flatten) hw rfl rfl rfl (by simp [nRows]) (by decide) fun q w' hw' => ⟨_, rfl, (fun h => by cases h), hw'⟩) ?_
    refine mStepX (φ := fun (t : Value) g => g 101 = t) (R := fun t => .own t 9 1 (nRows (cacheXs x.T)) :: bldR b3 (tA H ++ (H.Caches.take k).flatMap cacheTx) :: .blk b1 (hwC H a1 n1 c1 a2 n2 c2 a3 n3 c3 a4 n4 c4 a5 n5 c5) :: S) (v := .tuple #[]) (T' := Unit) (fun _ _ => True) (fun _ => bldR b3 ((tA H ++ (H.Caches.take k).flatMap cacheTx) ++ cacheTx x.T) :: .blk b1 (hwC H a1 n1 c1 a2 n2 c2 a3 n3 c3 a4 n4 c4 a5 n5 c5) :: S) (fun t g w Y ht hw => ?_) ?_
    · obtain ⟨d1, e1, z1, rfl, hn1, hc1, hc2⟩ := hw.own_shape (i := 0) rfl
      have hw2 : Wd Γ (bldR b3 (tA H ++ (H.Caches.take k).flatMap cacheTx) :: .own (.slice d1 e1 z1) 9 1 (nRows (cacheXs x.T)) :: ((.blk b1 (hwC H a1 n1 c1 a2 n2 c2 a3 n3 c3 a4 n4 c4 a5 n5 c5) :: S) ++ ([.own (.slice (some a11) x.N x.N) 9 1 (nRows (x.Cores.map fun n => decB n.toNat)), .blk b10 (.cells (cC x).toArray 79)] ++ Y))) w := hw.ps [1]
      refine s_callv (f := 34) (fst := #[]) (vs := #[.string (cacheHd x.T), .slice d1 e1 z1]) (cap := #[.pointer (some ⟨b3, 0, none⟩)]) rfl (EvL.eqA (EvL.cons rfl (EvL.cons ht EvL.nil))) ?_
      refine (itemF_any (m := 4) (cacheHd x.T) (cacheXs x.T) (And.intro hs1 (And.intro hs2 hs3)).1 (And.intro hs1 (And.intro hs2 hs3)).2.1 rfl (by decide) (RdS.ownI (i := 0) rfl hn1 hc1 hc2) (by simp only [List.length_append]; omega) hw2).mono ?_
      rintro e w' ⟨rfl, hw3⟩
      exact ⟨_, rfl, (), trivial, (fun _ => rfl), hw3.dropAt 1⟩
    refine mEndX fun t w g _ hw => ?_
    have hw : Wd Γ ((bldR b3 ((tA H ++ (H.Caches.take k).flatMap cacheTx) ++ cacheTx x.T) :: .blk b1 (hwC H a1 n1 c1 a2 n2 c2 a3 n3 c3 a4 n4 c4 a5 n5 c5) :: S) ++ [.own (.slice (some a11) x.N x.N) 9 1 (nRows (x.Cores.map fun n => decB n.toNat)), .blk b10 (.cells (cC x).toArray 79)]) w := hw
    have hw : Wd Γ (bldR b3 ((tA H ++ (H.Caches.take k).flatMap cacheTx) ++ cacheTx x.T) :: .blk b1 (hwC H a1 n1 c1 a2 n2 c2 a3 n3 c3 a4 n4 c4 a5 n5 c5) :: S) w := Wd.left hw
    repeat (first | refine byW ?_ | (refine byV ?_; intro w hw))
    refine ⟨μ - 1, by omega, k + 1, by omega, ⟨rfl, rfl, rfl, rfl, rfl, rfl, rfl, rfl, trivial⟩, ?_⟩
    rw [fl_step hxT, ← List.append_assoc]
    exact hw
  have hkn : n2 ≤ k := by have := of_decide_eq_false h; omega
  clear h
  rw [List.take_of_length_le (l := H.Caches) (i := k) (by omega)] at hw
  clear hk hρ
  repeat (first | refine byW ?_ | (refine byV ?_; intro w hw))
  refine W_loop (fun μ ρ w => ∃ (k : Nat), μ + k = n3 ∧ Has ρ [(1, .pointer (some ⟨b1, 0, none⟩)), (3, .pointer (some ⟨b3, 0, none⟩)), (4, .func (.func 34) #[] #[.pointer (some ⟨b3, 0, none⟩)]), (5, .func (.func 35) #[] #[]), (6, .func (.func 36) #[] #[]), (105, .slice a3 n3 c3), (106, .int .i64 n3), (107, .int .i64 k)] ∧ Wd Γ (bldR b3 (tB H ++ (H.Links.take k).flatMap linkTx) :: .blk b1 (hwC H a1 n1 c1 a2 n2 c2 a3 n3 c3 a4 n4 c4 a5 n5 c5) :: S) w) n3 ⟨0, by omega, ⟨rfl, rfl, rfl, rfl, rfl, rfl, rfl, rfl, trivial⟩, by simpa using hw⟩ ?_
  clear hw
  rintro μ ρ w ⟨k, hk, hρ, hw⟩
  rw [hρ.eq]
  have bk := b3' k
  repeat (first | refine byW ?_ | (refine byV ?_; intro w hw))
  refine W_cond rfl (fun h => ?_) (fun h => ?_)
  · have hkn : k < n3 := by have := of_decide_eq_true h; omega
    clear h
    obtain ⟨x, hx⟩ := get_lt (l := H.Links) (k := k) (by omega)
    have hxo := ol x (List.mem_of_getElem? hx)
    have hsz := link_sz hxo
    obtain ⟨o1, o2, o3⟩ := hxo
    have i1 := pg_it (Γ := Γ) o1
    have i2 := pg_it (Γ := Γ) o2
    have i3 := pg_it (Γ := Γ) o3
    have s1 := dec_small o1
    have s2 := dec_small o2
    have sa := ByteArray.size_append (a := (⟨#[108, 105, 110, 107, 32]⟩ : ByteArray)) (b := decB x.A.toNat)
    have sb := ByteArray.size_append (a := (⟨#[108, 105, 110, 107, 32]⟩ : ByteArray) ++ decB x.A.toNat) (b := (⟨#[32]⟩ : ByteArray))
    repeat (first | refine byW ?_ | (refine byV ?_; intro w hw))
    refine lAlloc ?_
    intro b6 w hw
    refine lStore ?_
    intro w hw
    have hw : Wd Γ (.blk b6 (.cells (enc x).toArray 82) :: bldR b3 (tB H ++ (H.Links.take k).flatMap linkTx) :: .blk b1 (hwC H a1 n1 c1 a2 n2 c2 a3 n3 c3 a4 n4 c4 a5 n5 c5) :: S) w := hw
    repeat (first | refine byW ?_ | (refine byV ?_; intro w hw))
    refine W_mixC [.blk b6 (.cells (enc x).toArray 82)] (bldR b3 (tB H ++ (H.Links.take k).flatMap linkTx) :: .blk b1 (hwC H a1 n1 c1 a2 n2 c2 a3 n3 c3 a4 n4 c4 a5 n5 c5) :: S) [127] [[],[],[],[],[],[],[],[],[],[],[],[],[],[],[],[],[0],[0]] hw ?_
    repeat (first | refine mY ?_ | refine mPgv ?_)
    refine mStepX (φ := fun (_ : Unit) _ => True) (R := fun _ => bldR b3 (tB H ++ (H.Links.take k).flatMap linkTx) :: .blk b1 (hwC H a1 n1 c1 a2 n2 c2 a3 n3 c3 a4 n4 c4 a5 n5 c5) :: S) (v := undef) (T' := Value) (fun t g => g 127 = t) (fun t => .own t 9 1 (nRows (linkXs x)) :: bldR b3 (tB H ++ (H.Links.take k).flatMap linkTx) :: .blk b1 (hwC H a1 n1 c1 a2 n2 c2 a3 n3 c3 a4 n4 c4 a5 n5 c5) :: S) (fun t g w Y ht hw => s_buildSlice (rws := nRows (linkXs x)) (cells := (nRows (linkXs x)).flatten) hw rfl rfl rfl (by simp [nRows]) (by decide) fun q w' hw' => ⟨_, rfl, (fun h => by cases h), hw'⟩) ?_
    refine mStepX (φ := fun (t : Value) g => g 127 = t) (R := fun t => .own t 9 1 (nRows (linkXs x)) :: bldR b3 (tB H ++ (H.Links.take k).flatMap linkTx) :: .blk b1 (hwC H a1 n1 c1 a2 n2 c2 a3 n3 c3 a4 n4 c4 a5 n5 c5) :: S) (v := .tuple #[]) (T' := Unit) (fun _ _ => True) (fun _ => bldR b3 ((tB H ++ (H.Links.take k).flatMap linkTx) ++ linkTx x) :: .blk b1 (hwC H a1 n1 c1 a2 n2 c2 a3 n3 c3 a4 n4 c4 a5 n5 c5) :: S) (fun t g w Y ht hw => ?_) ?_
    · obtain ⟨d1, e1, z1, rfl, hn1, hc1, hc2⟩ := hw.own_shape (i := 0) rfl
      have hw2 : Wd Γ (bldR b3 (tB H ++ (H.Links.take k).flatMap linkTx) :: .own (.slice d1 e1 z1) 9 1 (nRows (linkXs x)) :: ((.blk b1 (hwC H a1 n1 c1 a2 n2 c2 a3 n3 c3 a4 n4 c4 a5 n5 c5) :: S) ++ ([.blk b6 (.cells (enc x).toArray 82)] ++ Y))) w := hw.ps [1]
      refine s_callv (f := 34) (fst := #[]) (vs := #[.string (linkHd x), .slice d1 e1 z1]) (cap := #[.pointer (some ⟨b3, 0, none⟩)]) rfl (EvL.eqA (EvL.cons rfl (EvL.cons ht EvL.nil))) ?_
      refine (itemF_any (m := 1) (linkHd x) (linkXs x) hsz.1 hsz.2 rfl (by decide) (RdS.ownI (i := 0) rfl hn1 hc1 hc2) (by simp only [List.length_append]; omega) hw2).mono ?_
      rintro e w' ⟨rfl, hw3⟩
      exact ⟨_, rfl, (), trivial, (fun _ => rfl), hw3.dropAt 1⟩
    refine mEndX fun t w g _ hw => ?_
    have hw : Wd Γ ((bldR b3 ((tB H ++ (H.Links.take k).flatMap linkTx) ++ linkTx x) :: .blk b1 (hwC H a1 n1 c1 a2 n2 c2 a3 n3 c3 a4 n4 c4 a5 n5 c5) :: S) ++ [.blk b6 (.cells (enc x).toArray 82)]) w := hw
    have hw : Wd Γ (bldR b3 ((tB H ++ (H.Links.take k).flatMap linkTx) ++ linkTx x) :: .blk b1 (hwC H a1 n1 c1 a2 n2 c2 a3 n3 c3 a4 n4 c4 a5 n5 c5) :: S) w := Wd.left hw
    repeat (first | refine byW ?_ | (refine byV ?_; intro w hw))
    refine ⟨μ - 1, by omega, k + 1, by omega, ⟨rfl, rfl, rfl, rfl, rfl, rfl, rfl, rfl, trivial⟩, ?_⟩
    rw [fl_step hx, ← List.append_assoc]
    exact hw
  have hkn : n3 ≤ k := by have := of_decide_eq_false h; omega
  clear h
  rw [List.take_of_length_le (l := H.Links) (i := k) (by omega)] at hw
  clear hk hρ
  repeat (first | refine byW ?_ | (refine byV ?_; intro w hw))
  refine W_loop (fun μ ρ w => ∃ (k : Nat), μ + k = n4 ∧ Has ρ [(1, .pointer (some ⟨b1, 0, none⟩)), (3, .pointer (some ⟨b3, 0, none⟩)), (4, .func (.func 34) #[] #[.pointer (some ⟨b3, 0, none⟩)]), (5, .func (.func 35) #[] #[]), (6, .func (.func 36) #[] #[]), (131, .slice a4 n4 c4), (132, .int .i64 n4), (133, .int .i64 k)] ∧ Wd Γ (bldR b3 (tC H ++ (H.Mems.take k).flatMap memTx) :: .blk b1 (hwC H a1 n1 c1 a2 n2 c2 a3 n3 c3 a4 n4 c4 a5 n5 c5) :: S) w) n4 ⟨0, by omega, ⟨rfl, rfl, rfl, rfl, rfl, rfl, rfl, rfl, trivial⟩, by simpa using hw⟩ ?_
  clear hw
  rintro μ ρ w ⟨k, hk, hρ, hw⟩
  rw [hρ.eq]
  have bk := b4' k
  repeat (first | refine byW ?_ | (refine byV ?_; intro w hw))
  refine W_cond rfl (fun h => ?_) (fun h => ?_)
  · have hkn : k < n4 := by have := of_decide_eq_true h; omega
    clear h
    obtain ⟨x, hx⟩ := get_lt (l := H.Mems) (k := k) (by omega)
    have hxo := om x (List.mem_of_getElem? hx)
    have hsz := mem_sz hxo
    obtain ⟨o1, o2, o3, o4, o5⟩ := hxo
    have i1 := pg_w (Γ := Γ) o2
    have i2 := pg_w (Γ := Γ) o3
    have i3 := pg_it (Γ := Γ) o4
    have i4 := pg_it (Γ := Γ) o5
    have nsz : x.Name.size ≤ 24 := (name_word o1).2
    repeat (first | refine byW ?_ | (refine byV ?_; intro w hw))
    refine lAlloc ?_
    intro b6 w hw
    refine lStore ?_
    intro w hw
    have hw : Wd Γ (.blk b6 (.cells (enc x).toArray 47) :: bldR b3 (tC H ++ (H.Mems.take k).flatMap memTx) :: .blk b1 (hwC H a1 n1 c1 a2 n2 c2 a3 n3 c3 a4 n4 c4 a5 n5 c5) :: S) w := hw
    repeat (first | refine byW ?_ | (refine byV ?_; intro w hw))
    refine W_mixC [.blk b6 (.cells (enc x).toArray 47)] (bldR b3 (tC H ++ (H.Mems.take k).flatMap memTx) :: .blk b1 (hwC H a1 n1 c1 a2 n2 c2 a3 n3 c3 a4 n4 c4 a5 n5 c5) :: S) [157] [[],[],[],[],[],[],[],[],[],[],[],[],[],[],[],[],[],[],[],[],[0],[0]] hw ?_
    repeat (first | refine mY ?_ | refine mPgv ?_)
    refine mStepX (φ := fun (_ : Unit) _ => True) (R := fun _ => bldR b3 (tC H ++ (H.Mems.take k).flatMap memTx) :: .blk b1 (hwC H a1 n1 c1 a2 n2 c2 a3 n3 c3 a4 n4 c4 a5 n5 c5) :: S) (v := undef) (T' := Value) (fun t g => g 157 = t) (fun t => .own t 9 1 (nRows (memXs x)) :: bldR b3 (tC H ++ (H.Mems.take k).flatMap memTx) :: .blk b1 (hwC H a1 n1 c1 a2 n2 c2 a3 n3 c3 a4 n4 c4 a5 n5 c5) :: S) (fun t g w Y ht hw => s_buildSlice (rws := nRows (memXs x)) (cells := (nRows (memXs x)).flatten) hw rfl rfl rfl (by simp [nRows]) (by decide) fun q w' hw' => ⟨_, rfl, (fun h => by cases h), hw'⟩) ?_
    refine mStepX (φ := fun (t : Value) g => g 157 = t) (R := fun t => .own t 9 1 (nRows (memXs x)) :: bldR b3 (tC H ++ (H.Mems.take k).flatMap memTx) :: .blk b1 (hwC H a1 n1 c1 a2 n2 c2 a3 n3 c3 a4 n4 c4 a5 n5 c5) :: S) (v := .tuple #[]) (T' := Unit) (fun _ _ => True) (fun _ => bldR b3 ((tC H ++ (H.Mems.take k).flatMap memTx) ++ memTx x) :: .blk b1 (hwC H a1 n1 c1 a2 n2 c2 a3 n3 c3 a4 n4 c4 a5 n5 c5) :: S) (fun t g w Y ht hw => ?_) ?_
    · obtain ⟨d1, e1, z1, rfl, hn1, hc1, hc2⟩ := hw.own_shape (i := 0) rfl
      have hw2 : Wd Γ (bldR b3 (tC H ++ (H.Mems.take k).flatMap memTx) :: .own (.slice d1 e1 z1) 9 1 (nRows (memXs x)) :: ((.blk b1 (hwC H a1 n1 c1 a2 n2 c2 a3 n3 c3 a4 n4 c4 a5 n5 c5) :: S) ++ ([.blk b6 (.cells (enc x).toArray 47)] ++ Y))) w := hw.ps [1]
      refine s_callv (f := 34) (fst := #[]) (vs := #[.string (memHd x), .slice d1 e1 z1]) (cap := #[.pointer (some ⟨b3, 0, none⟩)]) rfl (EvL.eqA (EvL.cons rfl (EvL.cons ht EvL.nil))) ?_
      refine (itemF_any (m := 4) (memHd x) (memXs x) hsz.1 hsz.2 rfl (by decide) (RdS.ownI (i := 0) rfl hn1 hc1 hc2) (by simp only [List.length_append]; omega) hw2).mono ?_
      rintro e w' ⟨rfl, hw3⟩
      exact ⟨_, rfl, (), trivial, (fun _ => rfl), hw3.dropAt 1⟩
    refine mEndX fun t w g _ hw => ?_
    have hw : Wd Γ ((bldR b3 ((tC H ++ (H.Mems.take k).flatMap memTx) ++ memTx x) :: .blk b1 (hwC H a1 n1 c1 a2 n2 c2 a3 n3 c3 a4 n4 c4 a5 n5 c5) :: S) ++ [.blk b6 (.cells (enc x).toArray 47)]) w := hw
    have hw : Wd Γ (bldR b3 ((tC H ++ (H.Mems.take k).flatMap memTx) ++ memTx x) :: .blk b1 (hwC H a1 n1 c1 a2 n2 c2 a3 n3 c3 a4 n4 c4 a5 n5 c5) :: S) w := Wd.left hw
    repeat (first | refine byW ?_ | (refine byV ?_; intro w hw))
    refine ⟨μ - 1, by omega, k + 1, by omega, ⟨rfl, rfl, rfl, rfl, rfl, rfl, rfl, rfl, trivial⟩, ?_⟩
    rw [fl_step hx, ← List.append_assoc]
    exact hw
  have hkn : n4 ≤ k := by have := of_decide_eq_false h; omega
  clear h
  rw [List.take_of_length_le (l := H.Mems) (i := k) (by omega)] at hw
  clear hk hρ
  repeat (first | refine byW ?_ | (refine byV ?_; intro w hw))
  refine W_loop (fun μ ρ w => ∃ (k : Nat), μ + k = n5 ∧ Has ρ [(1, .pointer (some ⟨b1, 0, none⟩)), (3, .pointer (some ⟨b3, 0, none⟩)), (4, .func (.func 34) #[] #[.pointer (some ⟨b3, 0, none⟩)]), (5, .func (.func 35) #[] #[]), (6, .func (.func 36) #[] #[]), (161, .slice a5 n5 c5), (162, .int .i64 n5), (163, .int .i64 k)] ∧ Wd Γ (bldR b3 (tD H ++ (H.Devs.take k).flatMap devTx) :: .blk b1 (hwC H a1 n1 c1 a2 n2 c2 a3 n3 c3 a4 n4 c4 a5 n5 c5) :: S) w) n5 ⟨0, by omega, ⟨rfl, rfl, rfl, rfl, rfl, rfl, rfl, rfl, trivial⟩, by simpa using hw⟩ ?_
  clear hw
  rintro μ ρ w ⟨k, hk, hρ, hw⟩
  rw [hρ.eq]
  have bk := b5' k
  repeat (first | refine byW ?_ | (refine byV ?_; intro w hw))
  refine W_cond rfl (fun h => ?_) (fun h => ?_)
  · have hkn : k < n5 := by have := of_decide_eq_true h; omega
    clear h
    obtain ⟨x, hx⟩ := get_lt (l := H.Devs) (k := k) (by omega)
    have hxo := od x (List.mem_of_getElem? hx)
    have hsz := dev_sz hxo
    obtain ⟨o1, o2, o3, o4, o5⟩ := hxo
    have i1 := pg_it (Γ := Γ) o2
    have i2 := pg_it (Γ := Γ) o3
    have i3 := pg_w (Γ := Γ) o4
    have i4 := pg_w (Γ := Γ) o5
    have nsz : x.Name.size ≤ 24 := (name_word o1).2
    repeat (first | refine byW ?_ | (refine byV ?_; intro w hw))
    refine lAlloc ?_
    intro b6 w hw
    refine lStore ?_
    intro w hw
    have hw : Wd Γ (.blk b6 (.cells (enc x).toArray 84) :: bldR b3 (tD H ++ (H.Devs.take k).flatMap devTx) :: .blk b1 (hwC H a1 n1 c1 a2 n2 c2 a3 n3 c3 a4 n4 c4 a5 n5 c5) :: S) w := hw
    repeat (first | refine byW ?_ | (refine byV ?_; intro w hw))
    refine W_mixC [.blk b6 (.cells (enc x).toArray 84)] (bldR b3 (tD H ++ (H.Devs.take k).flatMap devTx) :: .blk b1 (hwC H a1 n1 c1 a2 n2 c2 a3 n3 c3 a4 n4 c4 a5 n5 c5) :: S) [187] [[],[],[],[],[],[],[],[],[],[],[],[],[],[],[],[],[],[],[],[],[0],[0]] hw ?_
    repeat (first | refine mY ?_ | refine mPgv ?_)
    refine mStepX (φ := fun (_ : Unit) _ => True) (R := fun _ => bldR b3 (tD H ++ (H.Devs.take k).flatMap devTx) :: .blk b1 (hwC H a1 n1 c1 a2 n2 c2 a3 n3 c3 a4 n4 c4 a5 n5 c5) :: S) (v := undef) (T' := Value) (fun t g => g 187 = t) (fun t => .own t 9 1 (nRows (devXs x)) :: bldR b3 (tD H ++ (H.Devs.take k).flatMap devTx) :: .blk b1 (hwC H a1 n1 c1 a2 n2 c2 a3 n3 c3 a4 n4 c4 a5 n5 c5) :: S) (fun t g w Y ht hw => s_buildSlice (rws := nRows (devXs x)) (cells := (nRows (devXs x)).flatten) hw rfl rfl rfl (by simp [nRows]) (by decide) fun q w' hw' => ⟨_, rfl, (fun h => by cases h), hw'⟩) ?_
    refine mStepX (φ := fun (t : Value) g => g 187 = t) (R := fun t => .own t 9 1 (nRows (devXs x)) :: bldR b3 (tD H ++ (H.Devs.take k).flatMap devTx) :: .blk b1 (hwC H a1 n1 c1 a2 n2 c2 a3 n3 c3 a4 n4 c4 a5 n5 c5) :: S) (v := .tuple #[]) (T' := Unit) (fun _ _ => True) (fun _ => bldR b3 ((tD H ++ (H.Devs.take k).flatMap devTx) ++ devTx x) :: .blk b1 (hwC H a1 n1 c1 a2 n2 c2 a3 n3 c3 a4 n4 c4 a5 n5 c5) :: S) (fun t g w Y ht hw => ?_) ?_
    · obtain ⟨d1, e1, z1, rfl, hn1, hc1, hc2⟩ := hw.own_shape (i := 0) rfl
      have hw2 : Wd Γ (bldR b3 (tD H ++ (H.Devs.take k).flatMap devTx) :: .own (.slice d1 e1 z1) 9 1 (nRows (devXs x)) :: ((.blk b1 (hwC H a1 n1 c1 a2 n2 c2 a3 n3 c3 a4 n4 c4 a5 n5 c5) :: S) ++ ([.blk b6 (.cells (enc x).toArray 84)] ++ Y))) w := hw.ps [1]
      refine s_callv (f := 34) (fst := #[]) (vs := #[.string (devHd x), .slice d1 e1 z1]) (cap := #[.pointer (some ⟨b3, 0, none⟩)]) rfl (EvL.eqA (EvL.cons rfl (EvL.cons ht EvL.nil))) ?_
      refine (itemF_any (m := 4) (devHd x) (devXs x) hsz.1 hsz.2 rfl (by decide) (RdS.ownI (i := 0) rfl hn1 hc1 hc2) (by simp only [List.length_append]; omega) hw2).mono ?_
      rintro e w' ⟨rfl, hw3⟩
      exact ⟨_, rfl, (), trivial, (fun _ => rfl), hw3.dropAt 1⟩
    refine mEndX fun t w g _ hw => ?_
    have hw : Wd Γ ((bldR b3 ((tD H ++ (H.Devs.take k).flatMap devTx) ++ devTx x) :: .blk b1 (hwC H a1 n1 c1 a2 n2 c2 a3 n3 c3 a4 n4 c4 a5 n5 c5) :: S) ++ [.blk b6 (.cells (enc x).toArray 84)]) w := hw
    have hw : Wd Γ (bldR b3 ((tD H ++ (H.Devs.take k).flatMap devTx) ++ devTx x) :: .blk b1 (hwC H a1 n1 c1 a2 n2 c2 a3 n3 c3 a4 n4 c4 a5 n5 c5) :: S) w := Wd.left hw
    repeat (first | refine byW ?_ | (refine byV ?_; intro w hw))
    refine ⟨μ - 1, by omega, k + 1, by omega, ⟨rfl, rfl, rfl, rfl, rfl, rfl, rfl, rfl, trivial⟩, ?_⟩
    rw [fl_step hx, ← List.append_assoc]
    exact hw
  have hkn : n5 ≤ k := by have := of_decide_eq_false h; omega
  clear h
  rw [List.take_of_length_le (l := H.Devs) (i := k) (by omega)] at hw
  clear hk hρ
  repeat (first | refine byW ?_ | (refine byV ?_; intro w hw))
  have hw : Wd Γ (bldR b3 (tE H) :: .blk b1 (hwC H a1 n1 c1 a2 n2 c2 a3 n3 c3 a4 n4 c4 a5 n5 c5) :: S) w := hw
  refine lCall (vs := [.pointer (some ⟨b3, 0, none⟩), .string (⟨#[125, 10]⟩ : ByteArray)]) ?_
  refine (WriteString_any _ (by omega) hw).mono ?_
  clear hw
  rintro e w ⟨rfl, hw⟩
  refine ⟨_, rfl, ?_⟩
  have hw : Wd Γ (bldR b3 (tE H ++ [125, 10]) :: .blk b1 (hwC H a1 n1 c1 a2 n2 c2 a3 n3 c3 a4 n4 c4 a5 n5 c5) :: S) w := hw
  repeat (first | refine byW ?_ | (refine byV ?_; intro w hw))
  refine lCall ?_
  refine (String_any (by rw [List.length_append]; simp only [List.length_cons, List.length_nil]; omega) hw).mono ?_
  clear hw
  rintro e w ⟨rfl, hw⟩
  refine ⟨_, rfl, ?_⟩
  repeat (first | refine byW ?_ | (refine byV ?_; intro w hw))
  exact ⟨_, rfl, rfl, hw.drop⟩
end Go.Proofs.YtimbobmmijgkiaaGreatDoor
end
/- Numbers drawn from a list. -/
section
open Go Mk
namespace Go.Proofs.YtimbobmmijgkiaaGreatDoor
set_option maxHeartbeats 8000000
attribute [local irreducible] Calls

section
variable {P : Program} {n : Nat} {ops : List Oper} {Γ : Gho} {K : List Res} {wr tc stab : List (List Nat)} {Q : Fr → World → Prop} {i : Nat} {rest : List Oper} {ρ : Fr} {M : Nat → Fr → List Res}
/-- In a mixed region: a call that changes what lies in the cell c, and whose answer is known. -/
theorem mCallD {c f : Nat} {d : Option Tmp} {ty : TypeId} {pos : String} {es : Array Edge} {args : List Operand} {tys : Array TypeId} {vs : List Value} {v : Value} {X X' : List Res} [FnOk P f]
    (hcall : ∀ S w, Wd Γ (X ++ S) w → Calls P f vs.toArray w fun e w' => e = .returned v ∧ Wd Γ (X' ++ S) w') (h : MSw (mV P n ops Γ K wr tc stab) Q (i + 1) rest ⟨putO ρ d v, setC M c fun _ => X'⟩)
    (ht : tc.getD i [] = [c] := by exact rfl) (hM : M c = (fun _ => X) := by first | exact setC_self | exact rfl) (hw0 : wr.getD i [] = [c] := by exact rfl) (ha : ∀ g, EvL (ovr stab.flatten g ρ) args vs := by intro g; exact byEV) :
    MSw (mV P n ops Γ K wr tc stab) Q i (⟨d, .call { callee := .value (.func f), args := args.toArray, argTypes := tys }, ty, pos, es, none⟩ :: rest) ⟨ρ, M⟩ := by
  refine mM (v := v) _ (fun Y w g hw => ?_) h hw0 rfl
  rw [cells1 ht, hM] at hw
  refine s_call (ha g).eqA ((hcall _ _ hw.swapApp).mono fun e w' ⟨h1, h2⟩ => ⟨v, h1, ?_, fun _ => rfl⟩)
  rw [cells1 ht, setC_self]
  exact h2.swapApp
end

/-- The number that is drawn as number k. -/
def nx (L : List Int) (k : Nat) (n : Int) : Int := ((if L = [] then 0 else (L.getD (k % L.length) 0) % 1073741824) + 7 * ((k / max L.length 1 : Nat) : Int)) % n
theorem nx_range {L : List Int} {k : Nat} {n : Int} (h : 0 < n) : 0 ≤ nx L k n ∧ nx L k n < n := ⟨Int.emod_nonneg _ (by omega), Int.emod_lt_of_pos _ h⟩
instance : PosL 1073741824 := ⟨by decide⟩
def drwB (bs : Nat) (a : Option Addr) (m c k : Nat) : Res := .blk bs (.cells #[.slice a m c, .int .i64 k] 94)
theorem Next_any {Γ : Gho} {S : List Res} {w : World} {bs : Nat} {a : Option Addr} {m c k : Nat} {L : List Int} {n : Int} (hn0 : 0 < n) (hk : k ≤ 1000000) (hr : RepS Γ (.slice a m c) 1 (intRows L)) (hw : Wd Γ (drwB bs a m c k :: S) w) :
    Calls Tryz.prog 42 #[.pointer (some ⟨bs, 0, none⟩), .int .i64 n] w fun e w' => e = .returned (.int .i64 (nx L k n)) ∧ Wd Γ (drwB bs a m c (k + 1) :: S) w' := by
  obtain ⟨hn, hnc, hc⟩ := rep_facts hr
  simp only [intRows, List.length_map] at hn
  unfold drwB at hw
  refine calls_of_W Tryz.func42 rfl rfl ?_
  iterate 8 (first | refine byW ?_ | (refine byV ?_; intro w hw))
  obtain ⟨v0, hv0⟩ : ∃ v0 : Int, v0 = (if L = [] then 0 else (L.getD (k % L.length) 0) % 1073741824) := ⟨_, rfl⟩
  have hvb : 0 ≤ v0 ∧ v0 < 1073741824 := by
    rw [hv0]; split
    · omega
    · exact ⟨Int.emod_nonneg _ (by omega), Int.emod_lt_of_pos _ (by omega)⟩
  refine W_cut (fun ρ w => Has ρ [(0, .pointer (some ⟨bs, 0, none⟩)), (1, .int .i64 n), (5, .int .i64 v0)] ∧ Wd Γ (.blk bs (.cells #[.slice a m c, .int .i64 k] 94) :: S) w) ?_ ?_
  · repeat (first | refine byW ?_ | (refine byV ?_; intro w hw))
    refine W_cond rfl (fun h => ?_) (fun h => ?_)
    · have hm : 0 < m := by simp at h; omega
      have hkm : (k : Int).tmod m = ((k % m : Nat) : Int) := by rw [Int.tmod_eq_emod_of_nonneg (by omega)]; exact (Int.natCast_emod k m).symm
      have hlt : k % m < m := Nat.mod_lt _ hm
      obtain ⟨x, hx⟩ := get_lt (l := L) (k := k % m) (by omega)
      have hx' : L[((k % m : Nat) : Int).toNat]? = some x := hx
      have hvx : v0 = x % 1073741824 := by
        rw [hv0, if_neg (fun e => by rw [e] at hn; simp at hn; omega), ← hn, List.getD_eq_getElem?_getD, hx]; rfl
      repeat (first | refine byW ?_ | (refine byV ?_; intro w hw))
      refine W_quiet (by kernel_rfl) (by kernel_rfl) hw ?_
      iterate 13 (first | refine Q_nil ?_ | (apply Q_plain; first | (apply Q_go; first | refine qP ?_ | refine qPg ?_) | refine qY ?_) | (apply Q_guarded; first | (apply Q_go; first | refine qPG ?_ | refine qPgG ?_) | refine qG ?_))
      refine qY (v := .int .i64 ((k % m : Nat) : Int)) ?_ (hy := fun w hw => by
        rw [← hkm]; exact y_rem rfl rfl (by omega))
      repeat (first | refine Q_nil ?_ | (apply Q_plain; first | (apply Q_go; first | refine qP ?_ | refine qPg ?_) | refine qY ?_) | (apply Q_guarded; first | (apply Q_go; first | refine qPG ?_ | refine qPgG ?_) | refine qG ?_))
      clear hw
      intro w hw
      repeat (first | refine byW ?_ | (refine byV ?_; intro w hw))
      exact ⟨⟨rfl, rfl, by rw [hvx]; rfl, trivial⟩, hw⟩
    · have hm : m = 0 := by simp at h; omega
      have hL : L = [] := List.eq_nil_of_length_eq_zero (by omega)
      repeat (first | refine byW ?_ | (refine byV ?_; intro w hw))
      exact ⟨⟨rfl, rfl, by rw [hv0, if_pos hL]; rfl, trivial⟩, hw⟩
  · rintro ρ w ⟨hρ, hw⟩
    rw [hρ.eq]
    clear hρ
    have hlen : max L.length 1 = max m 1 := by rw [hn]
    have hnx : nx L k n = (v0 + 7 * ((k / max m 1 : Nat) : Int)) % n := by unfold nx; rw [← hv0, hlen]
    rw [hnx]
    clear hnx hlen
    have hM : (if (m : Int) < 1 then 1 else (m : Int)) = ((max m 1 : Nat) : Int) := by
      split <;> omega
    have hMp : 0 < max m 1 := by omega
    have hq1 : (k : Int).tdiv ((max m 1 : Nat) : Int) = ((k / max m 1 : Nat) : Int) := by rw [Int.tdiv_eq_ediv_of_nonneg (by omega)]; rfl
    have hqk : k / max m 1 ≤ k := Nat.div_le_self _ _
    generalize k / max m 1 = q at *
    generalize max m 1 = M at *
    have hw1 : IntKind.i64.wrap ((q : Nat) : Int) = ((q : Nat) : Int) := wrap_i64 (by omega) (by omega)
    refine W_seq ?_
    refine W_quiet (by kernel_rfl) (by kernel_rfl) hw ?_
    iterate 10 (first | refine Q_nil ?_ | (apply Q_plain; first | (apply Q_go; first | refine qP ?_ | refine qPg ?_) | refine qY ?_) | (apply Q_guarded; first | (apply Q_go; first | refine qPG ?_ | refine qPgG ?_) | refine qG ?_))
    refine qY (v := .int .i64 ((M : Nat) : Int)) ?_ (hy := fun w hw => by rw [← hM]; exact y_max2 rfl rfl)
    refine qY (v := .int .i64 ((q : Nat) : Int)) ?_ (hy := fun w hw => by
      rw [← hw1, ← hq1]; exact y_quo rfl rfl (by omega))
    repeat (first | refine Q_nil ?_ | (apply Q_plain; first | (apply Q_go; first | refine qP ?_ | refine qPg ?_) | refine qY ?_) | (apply Q_guarded; first | (apply Q_go; first | refine qPG ?_ | refine qPgG ?_) | refine qG ?_))
    clear hw
    intro w hw
    repeat (first | refine byW ?_ | (refine byV ?_; intro w hw))
    refine lStore ?_
    intro w hw
    have hw : Wd Γ (drwB bs a m c (k + 1) :: S) w := hw
    repeat (first | refine byW ?_ | (refine byV ?_; intro w hw))
    refine ⟨_, rfl, ret_i rfl ?_, hw⟩
    rw [Int.tmod_eq_emod_of_nonneg (by omega)]
end Go.Proofs.YtimbobmmijgkiaaGreatDoor
end
/- Lists of IDs, and sorting by exchanges of neighbours. -/
section
open Go Mk
namespace Go.Proofs.YtimbobmmijgkiaaGreatDoor
set_option maxHeartbeats 8000000
attribute [local irreducible] Calls

/-- An element sinks to its place by exchanges with its left neighbour. -/
def bub {α : Type} (lt : α → α → Bool) : Nat → List α → List α
  | 0, l => l
  | k + 1, l => match l[k + 1]?, l[k]? with
    | some x, some y => if lt x y = true then bub lt k ((l.set (k + 1) y).set k x) else l
    | _, _ => l
def bsFrom {α : Type} (lt : α → α → Bool) : Nat → Nat → List α → List α
  | 0, _, l => l
  | f + 1, i, l => bsFrom lt f (i + 1) (bub lt i l)
def bsort {α : Type} (lt : α → α → Bool) (l : List α) : List α := bsFrom lt (l.length - 1) 1 l
theorem bub_step {α : Type} {lt : α → α → Bool} {k : Nat} {l : List α} {x y : α} (hx : l[k + 1]? = some x) (hy : l[k]? = some y) (h : lt x y = true) : bub lt (k + 1) l = bub lt k ((l.set (k + 1) y).set k x) := by
  unfold bub; rw [hx, hy]; simp only [if_pos h]; cases k <;> rfl
theorem bub_stop {α : Type} {lt : α → α → Bool} {k : Nat} {l : List α} {x y : α} (hx : l[k + 1]? = some x) (hy : l[k]? = some y) (h : ¬ lt x y = true) : bub lt (k + 1) l = l := by
  unfold bub; rw [hx, hy]; simp only [if_neg h]
theorem bub_len {α : Type} {lt : α → α → Bool} : ∀ (k : Nat) (l : List α), (bub lt k l).length = l.length
  | 0, l => rfl
  | k + 1, l => by
    unfold bub
    split
    · split
      · rw [bub_len k]; simp
      · rfl
    · rfl
theorem bsFrom_len {α : Type} {lt : α → α → Bool} : ∀ (f i : Nat) (l : List α), (bsFrom lt f i l).length = l.length
  | 0, _, _ => rfl
  | f + 1, i, l => by show (bsFrom lt f (i + 1) (bub lt i l)).length = _; rw [bsFrom_len f, bub_len]
theorem bsort_len {α : Type} {lt : α → α → Bool} (l : List α) : (bsort lt l).length = l.length := bsFrom_len _ _ _
def ltI (a b : Int) : Bool := decide (a < b)
theorem ints_one (xs : List Int) : (intRows xs).flatten.all (·.oneCell') = true := by
  unfold intRows
  induction xs with
  | nil => rfl
  | cons x l ih => simp only [List.map_cons, List.flatten_cons, List.all_append, ih]; rfl
theorem set_rows {xs : List Int} {k : Nat} {x : Int} : (intRows xs).set k [.int .i64 x] = intRows (xs.set k x) := by unfold intRows; rw [List.map_set]
theorem SortInts_any {Γ : Gho} {S : List Res} {w : World} {v : Value} {xs : List Int} (hr : RdS Γ S v 1 (intRows xs)) (hl : xs.length ≤ 1000000) (hw : Wd Γ S w) :
    Calls Tryz.prog 43 #[v] w fun e w' => ∃ v', e = .returned v' ∧ Wd Γ (.own v' 3 1 (intRows (bsort ltI xs)) :: S) w' := by
  obtain ⟨a, n, c, rfl, hn, hnc, hc⟩ := hr.shape
  simp only [intRows, List.length_map] at hn
  refine calls_of_W Tryz.func43 rfl rfl ?_
  repeat (first | refine byW ?_ | (refine byV ?_; intro w hw))
  have hw : Wd Γ (.own (.slice none 0 0) 3 1 [] :: S) w := Wd.addNil hw
  refine lApp (i := 0) (rows2 := intRows xs) ?_ (hr.cons.rd hw) (h1 := ints_one xs) (hm := by simp [intRows]; exact hn)
  intro v' w hw
  obtain ⟨q, m, d, rfl, hm, -, -⟩ := hw.own_shape (i := 0) rfl
  simp [intRows] at hm
  have hw : Wd Γ (.own (.slice q m d) 3 1 (intRows xs) :: S) w := hw
  repeat (first | refine byW ?_ | (refine byV ?_; intro w hw))
  refine W_loop (fun μ ρ w => ∃ (i : Nat) (Y : List Int), 1 ≤ i ∧ (m ≤ i + μ) ∧ Y.length = m ∧ bsort ltI xs = bsFrom ltI (m - i) i Y ∧ Has ρ [(3, .slice q m d), (4, .int .i64 i)] ∧ Wd Γ (.own (.slice q m d) 3 1 (intRows Y) :: S) w) m ⟨1, xs, by omega, by omega, hm.symm, by unfold bsort; rw [← hm], ⟨rfl, rfl, trivial⟩, hw⟩ ?_
  clear hw
  rintro μ ρ w ⟨i, Y, hi, hμ, hY, hB, hρ, hw⟩
  rw [hρ.eq]
  repeat (first | refine byW ?_ | (refine byV ?_; intro w hw))
  refine W_cond rfl (fun h => ?_) (fun h => ?_)
  · have him : i < m := by simpa using h
    have hB2 : bsort ltI xs = bsFrom ltI (m - (i + 1)) (i + 1) (bub ltI i Y) := by
      rw [hB, show m - i = (m - (i + 1)) + 1 by omega]; rfl
    repeat (first | refine byW ?_ | (refine byV ?_; intro w hw))
    refine W_loop (fun μ2 ρ w => ∃ (k : Nat) (Z : List Int), μ2 = k ∧ k ≤ i ∧ Z.length = m ∧ bub ltI i Y = bub ltI k Z ∧ Has ρ [(3, .slice q m d), (4, .int .i64 i), (5, .int .i64 k)] ∧ Wd Γ (.own (.slice q m d) 3 1 (intRows Z) :: S) w) i ⟨i, Y, rfl, Nat.le_refl _, hY, rfl, ⟨rfl, rfl, rfl, trivial⟩, hw⟩ ?_
    clear hw
    rintro μ2 ρ w ⟨k, Z, rfl, hk, hZ, hC, hρ, hw⟩
    rw [hρ.eq]
    refine W_seq ?_
    refine W_seq ?_
    have hnr : m = (intRows Z).length := by simp [intRows]; omega
    cases μ2 with
    | zero =>
      refine W_quiet (by kernel_rfl) (by kernel_rfl) hw ?_
      iterate 3 (first | refine Q_nil ?_ | (apply Q_plain; first | (apply Q_go; first | refine qP ?_ | refine qPg ?_) | refine qY ?_) | (apply Q_guarded; first | (apply Q_go; first | refine qPG ?_ | refine qPgG ?_) | refine qG ?_))
      iterate 10 (refine qGF ?_ rfl)
      refine qY (v := .bool false) ?_ (hy := fun w hw => y_pickF rfl rfl)
      refine Q_nil ?_
      clear hw
      intro w hw
      refine W_cond rfl (fun h => by cases h) (fun _ => ?_)
      repeat (first | refine byW ?_ | (refine byV ?_; intro w hw))
      exact ⟨μ - 1, by omega, i + 1, Z, by omega, by omega, hZ, by rw [hB2, hC]; rfl, ⟨rfl, rfl, trivial⟩, hw⟩
    | succ k =>
      obtain ⟨x, hx⟩ := get_lt (l := Z) (k := k + 1) (by omega)
      obtain ⟨y, hy⟩ := get_lt (l := Z) (k := k) (by omega)
      have e1 : (((k + 1 : Nat) : Int) - 1) = (k : Int) := by omega
      have hx' : Z[((k + 1 : Nat) : Int).toNat]? = some x := hx
      have hy' : Z[(((k + 1 : Nat) : Int) - 1).toNat]? = some y := by rw [e1]; exact hy
      refine W_quiet (by kernel_rfl) (by kernel_rfl) hw ?_
      iterate 1 (first | refine Q_nil ?_ | (apply Q_plain; first | (apply Q_go; first | refine qP ?_ | refine qPg ?_) | refine qY ?_) | (apply Q_guarded; first | (apply Q_go; first | refine qPG ?_ | refine qPgG ?_) | refine qG ?_))
      refine qT (b := decide ((0 : Int) < ((k + 1 : Nat) : Int))) (decide_eq_true (by omega)) ?_
      repeat (first | refine Q_nil ?_ | (apply Q_plain; first | (apply Q_go; first | refine qP ?_ | refine qPg ?_) | refine qY ?_) | (apply Q_guarded; first | (apply Q_go; first | refine qPG ?_ | refine qPgG ?_) | refine qG ?_))
      clear hw
      intro w hw
      refine W_cond rfl (fun h2 => ?_) (fun h2 => ?_)
      · have h2 : ltI x y = true := by simpa [ltI] using h2
        rw [bub_step hx hy h2] at hC
        repeat (first | refine byW ?_ | (refine byV ?_; intro w hw))
        refine lStoreE (k := k + 1) (i := 0) ?_
        intro w hw
        have hw : Wd Γ (.own (.slice q m d) 3 1 ((intRows Z).set (k + 1) [.int .i64 y]) :: S) w := hw
        rw [set_rows] at hw
        have hnr : m = (intRows (Z.set (k + 1) y)).length := by simp [intRows]; omega
        repeat (first | refine byW ?_ | (refine byV ?_; intro w hw))
        refine lStoreE (k := k) (i := 0) ?_ (hx := by show Value.pointer _ = _; rw [show (((k + 1 : Nat) : Int) - 1).toNat = k by omega])
        intro w hw
        have hw : Wd Γ (.own (.slice q m d) 3 1 ((intRows (Z.set (k + 1) y)).set k [.int .i64 x]) :: S) w := hw
        rw [set_rows] at hw
        repeat (first | refine byW ?_ | (refine byV ?_; intro w hw))
        exact ⟨k, by omega, k, _, rfl, by omega, by simp; omega, hC, ⟨rfl, rfl, by show Value.int .i64 (((k + 1 : Nat) : Int) - 1) = _; rw [e1], trivial⟩, hw⟩
      · have h2 : ¬ ltI x y = true := by have : ltI x y = false := by simpa [ltI] using h2
                                         rw [this]; simp
        rw [bub_stop hx hy h2] at hC
        repeat (first | refine byW ?_ | (refine byV ?_; intro w hw))
        exact ⟨μ - 1, by omega, i + 1, Z, by omega, by omega, hZ, by rw [hB2, hC], ⟨rfl, rfl, trivial⟩, hw⟩
  · have him : ¬ i < m := by simpa using h
    repeat (first | refine byW ?_ | (refine byV ?_; intro w hw))
    refine ⟨_, rfl, _, rfl, ?_⟩
    rw [hB, show m - i = 0 by omega]; exact hw
theorem IDs_any {Γ : Gho} {S : List Res} {w : World} {xs : List CoreT} {nm : ByteArray} {v1 v2 v3 v4 v5 : Value} (hr : RdS Γ S v1 4 (xs.map enc)) (hl : xs.length ≤ 1000000) (hw : Wd Γ S w) :
    Calls Tryz.prog 44 #[.agg #[.string nm, v1, v2, v3, v4, v5]] w fun e w' => ∃ v', e = .returned v' ∧ Wd Γ (.own v' 3 1 (intRows (xs.map (·.ID))) :: S) w' := by
  obtain ⟨a, n, c, rfl, hn, hnc, hc⟩ := hr.shape
  have hnr := hn
  simp only [List.length_map] at hn
  refine calls_of_W Tryz.func44 rfl rfl ?_
  repeat (first | refine byW ?_ | (refine byV ?_; intro w hw))
  refine lBox ?_
  intro b1 w hw
  have hw : Wd Γ (.blk b1 (.cells #[.string nm, .slice a n c, v2, v3, v4, v5] 35) :: S) w := hw
  have hw : Wd Γ (.own (.slice none 0 0) 3 1 (intRows ((xs.take 0).map (·.ID))) :: .blk b1 (.cells #[.string nm, .slice a n c, v2, v3, v4, v5] 35) :: S) w := Wd.addNil hw
  repeat (first | refine byW ?_ | (refine byV ?_; intro w hw))
  refine W_loop (fun μ ρ w => ∃ (k : Nat) (q : Option Addr) (m d : Nat), μ + k = n ∧ Has ρ [(1, .pointer (some ⟨b1, 0, none⟩)), (3, .slice q m d), (4, .int .i64 k)] ∧ Wd Γ (.own (.slice q m d) 3 1 (intRows ((xs.take k).map (·.ID))) :: .blk b1 (.cells #[.string nm, .slice a n c, v2, v3, v4, v5] 35) :: S) w) n ⟨0, none, 0, 0, by omega, ⟨rfl, rfl, rfl, trivial⟩, hw⟩ ?_
  clear hw
  rintro μ ρ w ⟨k, q, m, d, hk, hρ, hw⟩
  have hm := own_len (i := 0) hw rfl
  simp only [intRows, List.length_map, List.length_take] at hm
  have hr1 : RdS Γ (.own (.slice q m d) 3 1 (intRows ((xs.take k).map (·.ID))) :: .blk b1 (.cells #[.string nm, .slice a n c, v2, v3, v4, v5] 35) :: S) (.slice a n c) 4 (xs.map enc) := hr.cons.cons
  rw [hρ.eq]
  repeat (first | refine byW ?_ | (refine byV ?_; intro w hw))
  refine W_cond rfl (fun h => ?_) (fun h => ?_)
  · have hkn : k < n := by simpa using h
    obtain ⟨x, hx⟩ := get_lt (l := xs) (k := k) (by omega)
    repeat (first | refine byW ?_ | (refine byV ?_; intro w hw))
    refine lBuildSlice [[.int .i64 x.ID]] ?_
    intro ab w hw
    refine lApp (i := 1) (rows2 := [[.int .i64 x.ID]]) ?_ (Wd.own_rd (i := 0) hw rfl)
    intro v' w hw
    obtain ⟨q', m', d', rfl, -, -, -⟩ := hw.own_shape (i := 1) rfl
    have hw : Wd Γ (.own (.slice q' m' d') 3 1 (intRows ((xs.take (k + 1)).map (·.ID))) :: .blk b1 (.cells #[.string nm, .slice a n c, v2, v3, v4, v5] 35) :: S) w := by
      rw [← rows_snocI (f := fun c : CoreT => c.ID) hx]; exact hw.drop
    repeat (first | refine byW ?_ | (refine byV ?_; intro w hw))
    exact ⟨μ - 1, by omega, k + 1, _, _, _, by omega, ⟨rfl, rfl, rfl, trivial⟩, hw⟩
  · have hkn : ¬ k < n := by simpa using h
    rw [List.take_of_length_le (by omega)] at hw
    repeat (first | refine byW ?_ | (refine byV ?_; intro w hw))
    exact ⟨_, rfl, _, rfl, hw.dropAt 1⟩
end Go.Proofs.YtimbobmmijgkiaaGreatDoor
end
/- What the descriptions made of numbers are like. -/
section
open Go Mk
namespace Go.Proofs.YtimbobmmijgkiaaGreatDoor
set_option maxHeartbeats 8000000
attribute [local irreducible] Calls

def nodeG (sh : Int) (j : Int) : Int := (5 * j + sh) % 64
def IsNodeG (nodes sh n : Int) : Prop := ∃ j : Int, 0 ≤ j ∧ j < nodes ∧ n = nodeG sh j
def CoresG (nodes sh first : Int) (l : List CoreT) : Prop := ∀ (i : Nat) (x : CoreT), l[i]? = some x → x.ID = (3 * i + first) % 32 ∧ (x.Width = 32 ∨ x.Width = 39) ∧ IsNodeG nodes sh x.Node ∧ 1 ≤ x.Speed ∧ x.Speed ≤ 4
def LinkIs (sh : Int) (l : LinkT) (p : Nat × Nat) : Prop := (l.A = nodeG sh p.1 ∧ l.B = nodeG sh p.2 ∨ l.A = nodeG sh p.2 ∧ l.B = nodeG sh p.1) ∧ 1 ≤ l.Latency ∧ l.Latency ≤ 9
def LinksG (sh : Int) (k : Nat) (l : List LinkT) : Prop := l.length ≤ 2 * k ∧ ∃ P : List (Nat × Nat), P.length = l.length ∧ P.Nodup ∧ (∀ p ∈ P, p.2 < p.1 ∧ p.1 < k) ∧ (∀ (i : Nat) (x : LinkT) (p : Nat × Nat), l[i]? = some x → P[i]? = some p → LinkIs sh x p) ∧ ∀ i, 1 ≤ i → i < k → ∃ j, (i, j) ∈ P
def ramN (i : Nat) : ByteArray := ⟨#[114, 97, 109, UInt8.ofNat (48 + i)]⟩
def devN (i : Nat) : ByteArray := ⟨#[100, 101, 118, UInt8.ofNat (48 + i)]⟩
def pairN (i : Nat) : ByteArray := ⟨#[112, 97, 105, 114, UInt8.ofNat (48 + i)]⟩
def ownN (i : Nat) : ByteArray := ⟨#[111, 119, 110, UInt8.ofNat (48 + i)]⟩
def MemsG (nodes sh : Int) (l : List MemT) : Prop := ∀ (i : Nat) (x : MemT), l[i]? = some x → x.Name = ramN i ∧ x.Base = (5 - i) * 16777216 ∧ (∃ e : Nat, 12 ≤ e ∧ e ≤ 19 ∧ x.Size = 2 ^ e) ∧ IsNodeG nodes sh x.Node ∧ 1 ≤ x.Latency ∧ x.Latency ≤ 9
def DevsG (nodes sh irq : Int) (l : List DevT) : Prop := ∀ (i : Nat) (x : DevT), l[i]? = some x → x.Name = devN i ∧ IsNodeG nodes sh x.Node ∧ x.IRQ = (7 * i + irq) % 256 ∧ x.Base = 4294967296 + i * 65536 ∧ (∃ t : Int, 1 ≤ t ∧ t ≤ 3 ∧ x.Size = 4096 * t)
def allB : ByteArray := ⟨#[97, 108, 108]⟩
def cacheG (ids : List Int) (p : Nat × Nat) : CacheT :=
  if p.1 = 3 then ⟨allB, 3, 64, 1048576, ids⟩ else if p.1 = 2 then ⟨pairN p.2, 2, 64, 65536, (ids.drop (2 * p.2)).take 2⟩ else ⟨ownN p.2, 1, 32, 4096, (ids.drop (2 * p.2)).take 1⟩
def TagsG (ids : List Int) (k : Nat) (T : List (Nat × Nat)) : Prop := T.Nodup ∧ T.length ≤ 1 + 2 * k ∧ ∀ p ∈ T, p = (3, 0) ∨ ((p.1 = 2 ∨ p.1 = 1) ∧ p.2 < k ∧ 2 * p.2 < ids.length)
def CachesG (ids : List Int) (l : List CacheT) : Prop := ∃ k T, TagsG ids k T ∧ k ≤ 4 ∧ l = T.map (cacheG ids)
structure Gen (H : HwT) (nodes sh first irq : Int) : Prop where
  nd : 1 ≤ nodes ∧ nodes ≤ 6
  sr : 0 ≤ sh ∧ sh < 64
  fi : 0 ≤ first ∧ first < 32
  iq : 0 ≤ irq ∧ irq < 256
  nm : H.Name = ⟨#[109]⟩
  nc : 1 ≤ H.Cores.length ∧ H.Cores.length ≤ 8
  co : CoresG nodes sh first H.Cores
  li : LinksG sh nodes.toNat H.Links
  nm' : H.Mems.length ≤ 4
  me : MemsG nodes sh H.Mems
  nd' : H.Devs.length ≤ 4
  de : DevsG nodes sh irq H.Devs
  ca : CachesG (bsort ltI (H.Cores.map (·.ID))) H.Caches

/-! ### one more of each -/
theorem get_snoc {α : Type} {l : List α} {y x : α} {i : Nat} (h : (l ++ [y])[i]? = some x) : l[i]? = some x ∨ (i = l.length ∧ x = y) := by
  rw [List.getElem?_append] at h
  split at h
  · exact .inl h
  · rename_i h2
    rcases Nat.eq_or_lt_of_le (Nat.not_lt.1 h2) with e | e
    · subst e; simp at h; exact .inr ⟨rfl, h.symm⟩
    · rw [List.getElem?_eq_none (by simp; omega)] at h; cases h
theorem CoresG.snoc {nodes sh first : Int} {l : List CoreT} {x : CoreT} (h : CoresG nodes sh first l) (hx : x.ID = (3 * l.length + first) % 32 ∧ (x.Width = 32 ∨ x.Width = 39) ∧ IsNodeG nodes sh x.Node ∧ 1 ≤ x.Speed ∧ x.Speed ≤ 4) : CoresG nodes sh first (l ++ [x]) := fun i y hy => by
  rcases get_snoc hy with h1 | ⟨rfl, rfl⟩
  · exact h i y h1
  · exact hx
theorem MemsG.snoc {nodes sh : Int} {l : List MemT} {x : MemT} (h : MemsG nodes sh l) (hx : x.Name = ramN l.length ∧ x.Base = (5 - l.length) * 16777216 ∧ (∃ e : Nat, 12 ≤ e ∧ e ≤ 19 ∧ x.Size = 2 ^ e) ∧ IsNodeG nodes sh x.Node ∧ 1 ≤ x.Latency ∧ x.Latency ≤ 9) : MemsG nodes sh (l ++ [x]) := fun i y hy => by
  rcases get_snoc hy with h1 | ⟨rfl, rfl⟩
  · exact h i y h1
  · exact hx
theorem DevsG.snoc {nodes sh irq : Int} {l : List DevT} {x : DevT} (h : DevsG nodes sh irq l) (hx : x.Name = devN l.length ∧ IsNodeG nodes sh x.Node ∧ x.IRQ = (7 * l.length + irq) % 256 ∧ x.Base = 4294967296 + l.length * 65536 ∧ (∃ t : Int, 1 ≤ t ∧ t ≤ 3 ∧ x.Size = 4096 * t)) : DevsG nodes sh irq (l ++ [x]) := fun i y hy => by
  rcases get_snoc hy with h1 | ⟨rfl, rfl⟩
  · exact h i y h1
  · exact hx
theorem LinksG.start {sh : Int} : LinksG sh 1 [] := ⟨by simp, [], rfl, List.nodup_nil, by simp, by simp, fun i h1 h2 => by omega⟩
theorem LinksG.one {sh : Int} {k up : Nat} {l : List LinkT} {x : LinkT} (h : LinksG sh k l) (hup : up < k) (hx : LinkIs sh x (k, up)) : LinksG sh (k + 1) (l ++ [x]) := by
  obtain ⟨h1, P, h2, h3, h4, h5, h6⟩ := h
  refine ⟨by simp; omega, P ++ [(k, up)], by simp [h2], nodup_snoc.2 ⟨h3, fun hm => by have := h4 _ hm; simp at this⟩, fun p hp => ?_, fun i y p hy hp => ?_, fun i hi hk => ?_⟩
  · rcases List.mem_append.1 hp with hp | hp
    · have := h4 p hp; omega
    · cases List.mem_singleton.1 hp; dsimp; omega
  · rcases get_snoc hy with a | ⟨a, rfl⟩
    · rcases get_snoc hp with b | ⟨b, rfl⟩
      · exact h5 i y p a b
      · have := (List.getElem?_eq_some_iff.1 a).1; omega
    · subst a
      rw [← h2] at hp
      simp at hp; subst hp; exact hx
  · by_cases e : i = k
    · subst e; exact ⟨up, by simp⟩
    · obtain ⟨j, hj⟩ := h6 i hi (by omega); exact ⟨j, List.mem_append_left _ hj⟩
theorem LinksG.two {sh : Int} {k up mo : Nat} {l : List LinkT} {x y : LinkT} (h : LinksG sh k l) (hk1 : 1 ≤ k) (hup : up < k) (hmo : mo < k) (hne : mo ≠ up) (hx : LinkIs sh x (k, up)) (hy : LinkIs sh y (k, mo)) : LinksG sh (k + 1) (l ++ [x] ++ [y]) := by
  obtain ⟨h1, P, h2, h3, h4, h5, h6⟩ := h
  have hfresh : ∀ j, (k, j) ∉ P := fun j hm => by have := h4 _ hm; simp at this
  refine ⟨by simp; omega, P ++ [(k, up)] ++ [(k, mo)], by simp [h2], nodup_snoc.2 ⟨nodup_snoc.2 ⟨h3, hfresh up⟩, fun hm => ?_⟩, fun p hp => ?_, fun i z p hz hp => ?_, fun i hi hk => ?_⟩
  · rcases List.mem_append.1 hm with hm | hm
    · exact hfresh mo hm
    · simp at hm; exact hne hm
  · rcases List.mem_append.1 hp with hp | hp
    · rcases List.mem_append.1 hp with hp | hp
      · have := h4 p hp; omega
      · cases List.mem_singleton.1 hp; dsimp; omega
    · cases List.mem_singleton.1 hp; dsimp; omega
  · rcases get_snoc hz with a | ⟨a, rfl⟩
    · have ha := (List.getElem?_eq_some_iff.1 a).1
      simp at ha
      rcases get_snoc hp with b | ⟨b, rfl⟩
      · rcases get_snoc a with a2 | ⟨a2, rfl⟩
        · rcases get_snoc b with b2 | ⟨b2, rfl⟩
          · exact h5 i z p a2 b2
          · have := (List.getElem?_eq_some_iff.1 a2).1; omega
        · subst a2
          rw [← h2] at b
          simp at b; subst b; exact hx
      · simp at b; omega
    · simp at a; subst a
      rw [← h2] at hp
      simp [List.getElem?_append] at hp; subst hp; exact hy
  · by_cases e : i = k
    · subst e; exact ⟨up, by simp⟩
    · obtain ⟨j, hj⟩ := h6 i hi (by omega); exact ⟨j, List.mem_append_left _ (List.mem_append_left _ hj)⟩
theorem TagsG.start {ids : List Int} : TagsG ids 0 [] := ⟨List.nodup_nil, by simp, by simp⟩
theorem TagsG.all {ids : List Int} : TagsG ids 0 [(3, 0)] := ⟨by simp, by simp, by simp⟩
theorem TagsG.step {ids : List Int} {k : Nat} {T : List (Nat × Nat)} (h : TagsG ids k T) (hk : 2 * k < ids.length) (b1 b2 : Bool) : TagsG ids (k + 1) (T ++ (if b1 = true then [(2, k)] else []) ++ (if b2 = true then [(1, k)] else [])) := by
  obtain ⟨h1, h2, h3⟩ := h
  have hfr : ∀ t, t ≠ 3 → (t, k) ∉ T := fun t ht hm => by
    rcases h3 _ hm with h | h
    · injection h with h4 _; exact ht h4
    · have := h.2.1; dsimp at this; omega
  have hold : ∀ p ∈ T, p = (3, 0) ∨ ((p.1 = 2 ∨ p.1 = 1) ∧ p.2 < k + 1 ∧ 2 * p.2 < ids.length) := fun p hp => by
    rcases h3 p hp with h | ⟨a, b, c⟩
    · exact .inl h
    · exact .inr ⟨a, by omega, c⟩
  cases b1 <;> cases b2 <;> simp only [if_true, if_false, List.append_nil, Bool.false_eq_true]
  · exact ⟨h1, by omega, hold⟩
  · refine ⟨nodup_snoc.2 ⟨h1, hfr 1 (by decide)⟩, by simp; omega, fun p hp => ?_⟩
    rcases List.mem_append.1 hp with hp | hp
    · exact hold p hp
    · cases List.mem_singleton.1 hp; exact .inr ⟨.inr rfl, by dsimp; omega, by dsimp; omega⟩
  · refine ⟨nodup_snoc.2 ⟨h1, hfr 2 (by decide)⟩, by simp; omega, fun p hp => ?_⟩
    rcases List.mem_append.1 hp with hp | hp
    · exact hold p hp
    · cases List.mem_singleton.1 hp; exact .inr ⟨.inl rfl, by dsimp; omega, by dsimp; omega⟩
  · refine ⟨nodup_snoc.2 ⟨nodup_snoc.2 ⟨h1, hfr 2 (by decide)⟩, fun hm => ?_⟩, by simp; omega, fun p hp => ?_⟩
    · rcases List.mem_append.1 hm with hm | hm
      · exact hfr 1 (by decide) hm
      · simp at hm
    · rcases List.mem_append.1 hp with hp | hp
      · rcases List.mem_append.1 hp with hp | hp
        · exact hold p hp
        · cases List.mem_singleton.1 hp; exact .inr ⟨.inl rfl, by dsimp; omega, by dsimp; omega⟩
      · cases List.mem_singleton.1 hp; exact .inr ⟨.inr rfl, by dsimp; omega, by dsimp; omega⟩
end Go.Proofs.YtimbobmmijgkiaaGreatDoor
end
