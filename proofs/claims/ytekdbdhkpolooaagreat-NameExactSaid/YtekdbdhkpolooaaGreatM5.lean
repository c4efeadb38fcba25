/- Texts of this proof, one behind another. -/
import Derived.Test.YtekdbdhkpolooaaGreatM4
import Derived.Test.YtekdbdhkpolooaaGreatRows
import Derived.ProofKit
import Derived.OpenShut
import Derived.Deep.Slices
import Derived.ReadAgain
/- A waiter is cancelled; a core departs. -/
section
open Go Mk
namespace Go.Proofs.YtekdbdhkpolooaaGreat
set_option maxHeartbeats 4000000
attribute [local irreducible] Calls

def caErr (ws : List Waiter) (token core : Int) : Int := if (ws.findIdx? (isW token core)).isSome then 0 else 17
def caW (ws : List Waiter) (token core : Int) : List Waiter := match ws.findIdx? (isW token core) with | some k => ws.eraseIdx k | none => ws
theorem findIdx_lt {α : Type} {p : α → Bool} {l : List α} {k : Nat} (h : l.findIdx? p = some k) : k < l.length := (List.findIdx?_eq_some_iff_getElem.1 h).1

theorem Cancel_any (Γ : Gho) (S : List Res) (w : World) (b bm : Nat) (vs : Value) (m : List (ByteArray × Service)) (ws : List Waiter) (token core : Int) (hws : ws.length ≤ 64) (hw : Wd Γ (srvL b bm vs m ws ++ S) w) :
    Calls Tryz.prog 27 #[.pointer (some ⟨b, 0, none⟩), .int .i64 token, .int .i64 core] w fun e w' => ∃ vs', e = .returned (.int .i64 (caErr ws token core)) ∧ Wd Γ (srvL b bm vs' m (caW ws token core) ++ S) w' := by
  refine calls_of_W Tryz.func27 rfl rfl ?_
  repeat (first | (first | refine W_seq ?_ | refine W_block ?_ | refine W_region ?_ | refine W_skip ?_ | refine W_ret ?_ | refine W_exit ?_) | (first | refine L_nil ?_ | (apply L_plain; first | (apply L_go; first | refine lP ?_ | (refine lPg ?_; intro w hw)) | (apply L_mf; refine lMakeFunc ?_) | refine lY ?_) | (apply L_guarded; first | refine lGT ?_ | refine lGF ?_ | (apply L_go; refine lPG ?_) | refine lG ?_)))
  refine lCall ?_
  refine (waiter_any Γ S w b bm vs m ws token core hw).mono ?_
  rintro e w ⟨rfl, hw⟩
  refine ⟨_, rfl, ?_⟩
  unfold srvL at hw
  obtain ⟨a, n, c, rfl, hn, hnc, hc⟩ := hw.own_shape (i := 2) rfl
  simp only [List.length_map] at hn
  cases hf : ws.findIdx? (isW token core) with
  | none =>
    repeat (first | (first | refine W_seq ?_ | refine W_block ?_ | refine W_region ?_ | refine W_skip ?_ | refine W_ret ?_ | refine W_exit ?_) | (first | refine L_nil ?_ | (apply L_plain; first | (apply L_go; first | refine lP ?_ | (refine lPg ?_; intro w hw)) | (apply L_mf; refine lMakeFunc ?_) | refine lY ?_) | (apply L_guarded; first | refine lGT ?_ | refine lGF ?_ | (apply L_go; refine lPG ?_) | refine lG ?_)))
    refine W_cond_true rfl ?_
    repeat (first | (first | refine W_seq ?_ | refine W_block ?_ | refine W_region ?_ | refine W_skip ?_ | refine W_ret ?_ | refine W_exit ?_) | (first | refine L_nil ?_ | (apply L_plain; first | (apply L_go; first | refine lP ?_ | (refine lPg ?_; intro w hw)) | (apply L_mf; refine lMakeFunc ?_) | refine lY ?_) | (apply L_guarded; first | refine lGT ?_ | refine lGF ?_ | (apply L_go; refine lPG ?_) | refine lG ?_)))
    refine ⟨_, rfl, .slice a n c, ret_i rfl (by simp [caErr, hf]), ?_⟩
    rw [show caW ws token core = ws from by simp [caW, hf]]
    exact hw
  | some k =>
    have hk := findIdx_lt hf
    have hz : ixZ (some k) = (k : Int) := rfl
    repeat (first | (first | refine W_seq ?_ | refine W_block ?_ | refine W_region ?_ | refine W_skip ?_ | refine W_ret ?_ | refine W_exit ?_) | (first | refine L_nil ?_ | (apply L_plain; first | (apply L_go; first | refine lP ?_ | (refine lPg ?_; intro w hw)) | (apply L_mf; refine lMakeFunc ?_) | refine lY ?_) | (apply L_guarded; first | refine lGT ?_ | refine lGF ?_ | (apply L_go; refine lPG ?_) | refine lG ?_)))
    refine W_cond rfl (fun h => absurd h (by simp [hz])) (fun _ => ?_)
    repeat (first | (first | refine W_seq ?_ | refine W_block ?_ | refine W_region ?_ | refine W_skip ?_ | refine W_ret ?_ | refine W_exit ?_) | (first | refine L_nil ?_ | (apply L_plain; first | (apply L_go; first | refine lP ?_ | (refine lPg ?_; intro w hw)) | (apply L_mf; refine lMakeFunc ?_) | refine lY ?_) | (apply L_guarded; first | refine lGT ?_ | refine lGF ?_ | (apply L_go; refine lPG ?_) | refine lG ?_)))
    refine lCall ?_
    refine (Delete_wtr k (hw.ps [2]) hk (by omega)).mono ?_
    rintro e w ⟨v', rfl, hw⟩
    obtain ⟨a', n', c', rfl, -, -, -⟩ := hw.own_shape (i := 0) rfl
    refine ⟨_, rfl, ?_⟩
    repeat (first | (first | refine W_seq ?_ | refine W_block ?_ | refine W_region ?_ | refine W_skip ?_ | refine W_ret ?_ | refine W_exit ?_) | (first | refine L_nil ?_ | (apply L_plain; first | (apply L_go; first | refine lP ?_ | (refine lPg ?_; intro w hw)) | (apply L_mf; refine lMakeFunc ?_) | refine lY ?_) | (apply L_guarded; first | refine lGT ?_ | refine lGF ?_ | (apply L_go; refine lPG ?_) | refine lG ?_)) | (refine lAlloc ?_; intro _ w hw) | (refine lBox ?_; intro _ w hw) | (refine lStore ?_; intro w hw))
    refine ⟨_, rfl, .slice a' n' c', ret_i rfl (by simp [caErr, hf]), ?_⟩
    rw [show caW ws token core = ws.eraseIdx k from by simp [caW, hf]]
    exact hw.ps [2, 2]

def ofCore (c : Int) (x : Waiter) : Bool := decide (x.Core = c)
theorem Depart1_any (Γ : Gho) (S : List Res) (w : World) (bc : Nat) (core : Int) (x : Waiter) (hw : Wd Γ (.blk bc (.cells #[.int .i64 core] 3) :: S) w) :
    Calls Tryz.prog 55 #[.agg (enc x).toArray, .pointer (some ⟨bc, 0, none⟩)] w fun e w' => e = .returned (.bool (ofCore core x)) ∧ Wd Γ (.blk bc (.cells #[.int .i64 core] 3) :: S) w' := by
  refine calls_of_W Tryz.func55 rfl rfl ?_
  repeat (first | (first | refine W_seq ?_ | refine W_block ?_ | refine W_region ?_ | refine W_skip ?_ | refine W_ret ?_ | refine W_exit ?_) | (first | refine L_nil ?_ | (apply L_plain; first | (apply L_go; first | refine lP ?_ | (refine lPg ?_; intro w hw)) | (apply L_mf; refine lMakeFunc ?_) | refine lY ?_) | (apply L_guarded; first | refine lGT ?_ | refine lGF ?_ | (apply L_go; refine lPG ?_) | refine lG ?_)) | (refine lAlloc ?_; intro _ w hw) | (refine lBox ?_; intro _ w hw) | (refine lStore ?_; intro w hw))
  exact ⟨_, rfl, rfl, hw.drop⟩

def sCore (c : Int) (x : Service) : Bool := decide (x.Core = c)
def delAll (m : List (ByteArray × Service)) (l : List Service) : List (ByteArray × Service) := l.foldl (fun m v => aDel m v.Name) m
theorem Depart_any (Γ : Gho) (S : List Res) (w : World) (b bm : Nat) (vs : Value) (m : List (ByteArray × Service)) (ws : List Waiter) (core : Int) (hm : m.length ≤ 64) (hw : Wd Γ (srvL b bm vs m ws ++ S) w) :
    Calls Tryz.prog 29 #[.pointer (some ⟨b, 0, none⟩), .int .i64 core] w fun e w' => ∃ v ys vs', e = .returned v ∧ Sorted m ys ∧
      Wd Γ (.own v 32 4 ((ys.filter (sCore core)).map enc) :: (srvL b bm vs' (delAll m (ys.filter (sCore core))) (ws.filter fun x => !ofCore core x) ++ S)) w' := by
  unfold srvL at hw
  obtain ⟨a, n, c, rfl, hn, hnc, hc⟩ := hw.own_shape (i := 2) rfl
  refine calls_of_W Tryz.func29 rfl rfl ?_
  repeat (first | (first | refine W_seq ?_ | refine W_block ?_ | refine W_region ?_ | refine W_skip ?_ | refine W_ret ?_ | refine W_exit ?_) | (first | refine L_nil ?_ | (apply L_plain; first | (apply L_go; first | refine lP ?_ | (refine lPg ?_; intro w hw)) | (apply L_mf; refine lMakeFunc ?_) | refine lY ?_) | (apply L_guarded; first | refine lGT ?_ | refine lGF ?_ | (apply L_go; refine lPG ?_) | refine lG ?_)))
  refine lBox ?_
  intro bc w hw
  repeat (first | (first | refine W_seq ?_ | refine W_block ?_ | refine W_region ?_ | refine W_skip ?_ | refine W_ret ?_ | refine W_exit ?_) | (first | refine L_nil ?_ | (apply L_plain; first | (apply L_go; first | refine lP ?_ | (refine lPg ?_; intro w hw)) | (apply L_mf; refine lMakeFunc ?_) | refine lY ?_) | (apply L_guarded; first | refine lGT ?_ | refine lGF ?_ | (apply L_go; refine lPG ?_) | refine lG ?_)))
  refine lCall ?_
  refine (DeleteFunc_any (fun _ => .blk bc (.cells #[.int .i64 core] 3) :: .blk b (.cells #[.map (some bm), .slice a n c] 48) :: Res.ms svcV bm m :: S) Γ w _ ws 55 [] [.pointer (some ⟨bc, 0, none⟩)] (ofCore core) (hw.ps [3]) (fun R k x w hx hw => ?_)).mono ?_
  · refine (Depart1_any Γ (R ++ (.blk b (.cells #[.map (some bm), .slice a n c] 48) :: Res.ms svcV bm m :: S)) w bc core x ((Wd.swapApp (B := [_]) hw))).mono ?_
    rintro e w' ⟨he, hw'⟩
    exact ⟨he, Wd.swapApp (A := [_]) hw'⟩
  rintro e w ⟨vs', rfl, hw⟩
  obtain ⟨a', n', c', rfl, -, -, -⟩ := hw.own_shape (i := 0) rfl
  refine ⟨_, rfl, ?_⟩
  repeat (first | (first | refine W_seq ?_ | refine W_block ?_ | refine W_region ?_ | refine W_skip ?_ | refine W_ret ?_ | refine W_exit ?_) | (first | refine L_nil ?_ | (apply L_plain; first | (apply L_go; first | refine lP ?_ | (refine lPg ?_; intro w hw)) | (apply L_mf; refine lMakeFunc ?_) | refine lY ?_) | (apply L_guarded; first | refine lGT ?_ | refine lGF ?_ | (apply L_go; refine lPG ?_) | refine lG ?_)) | (refine lAlloc ?_; intro _ w hw) | (refine lBox ?_; intro _ w hw) | (refine lStore ?_; intro w hw))
  refine lCall ?_
  refine (Services_any Γ (Res.blk bc _ :: S) w b bm _ m _ hm (hw.ps [1, 1, 3, 3])).mono ?_
  rintro e w ⟨v, ys, rfl, hys, hw⟩
  refine ⟨_, rfl, ?_⟩
  obtain ⟨a2, n2, c2, rfl, hn2, hnc2, hc2⟩ := hw.own_shape (i := 0) rfl
  simp only [List.length_map] at hn2
  have hlen : ys.length ≤ 64 := by have := hys.perm.length_eq; simp at this; omega
  repeat (first | (first | refine W_seq ?_ | refine W_block ?_ | refine W_region ?_ | refine W_skip ?_ | refine W_ret ?_ | refine W_exit ?_) | (first | refine L_nil ?_ | (apply L_plain; first | (apply L_go; first | refine lP ?_ | (refine lPg ?_; intro w hw)) | (apply L_mf; refine lMakeFunc ?_) | refine lY ?_) | (apply L_guarded; first | refine lGT ?_ | refine lGF ?_ | (apply L_go; refine lPG ?_) | refine lG ?_)))
  unfold srvL at hw
  refine W_loop (fun μ ρ w => ∃ (k : Nat) (g : Value), μ + k = n2 ∧ Has ρ [(0, .pointer (some ⟨b, 0, none⟩)), (3, .pointer (some ⟨bc, 0, none⟩)), (5, g), (18, .slice a2 n2 c2), (19, .int .i64 n2), (20, .int .i64 k)] ∧
    Wd Γ (.own g 32 4 (((ys.take k).filter (sCore core)).map enc) :: .own (.slice a2 n2 c2) 32 4 (ys.map enc) :: .blk b (.cells #[.map (some bm), .slice a' n' c'] 48) :: Res.ms svcV bm (delAll m ((ys.take k).filter (sCore core))) ::
      .own (.slice a' n' c') 34 3 ((ws.filter fun x => !ofCore core x).map enc) :: .blk bc (.cells #[.int .i64 core] 3) :: S) w) n2 ⟨0, .slice none 0 0, by omega, ⟨rfl, rfl, rfl, rfl, rfl, rfl, trivial⟩, Wd.addNil hw⟩ ?_
  rintro μ ρ w ⟨k, g, hk, hρ, hw⟩
  rw [hρ.eq]
  obtain ⟨a3, n3, c3, rfl, hn3, hnc3, hc3⟩ := hw.own_shape (i := 0) rfl
  have hl3 : ((ys.take k).filter (sCore core)).length ≤ ys.length := Nat.le_trans (List.length_filter_le _ _) (by rw [List.length_take]; omega)
  simp only [List.length_map] at hn3
  repeat (first | (first | refine W_seq ?_ | refine W_block ?_ | refine W_region ?_ | refine W_skip ?_ | refine W_ret ?_ | refine W_exit ?_) | (first | refine L_nil ?_ | (apply L_plain; first | (apply L_go; first | refine lP ?_ | (refine lPg ?_; intro w hw)) | (apply L_mf; refine lMakeFunc ?_) | refine lY ?_) | (apply L_guarded; first | refine lGT ?_ | refine lGF ?_ | (apply L_go; refine lPG ?_) | refine lG ?_)))
  refine W_cond rfl (fun h => ?_) (fun h => ?_)
  · have hkn : k < n2 := by simpa using h
    obtain ⟨x, hx⟩ := get_lt (l := ys) (k := k) (by omega)
    have hr := RdS.own (i := 1) hw rfl
    repeat (first | (first | refine W_seq ?_ | refine W_block ?_ | refine W_region ?_ | refine W_skip ?_ | refine W_ret ?_ | refine W_exit ?_) | (first | refine L_nil ?_ | (apply L_plain; first | (apply L_go; first | refine lP ?_ | (refine lPg ?_; intro w hw)) | (apply L_mf; refine lMakeFunc ?_) | refine lY ?_) | (apply L_guarded; first | refine lGT ?_ | refine lGF ?_ | (apply L_go; refine lPG ?_) | refine lG ?_)))
    refine lAlloc ?_
    intro be w hw
    refine lStore ?_
    intro w hw
    repeat (first | (first | refine W_seq ?_ | refine W_block ?_ | refine W_region ?_ | refine W_skip ?_ | refine W_ret ?_ | refine W_exit ?_) | (first | refine L_nil ?_ | (apply L_plain; first | (apply L_go; first | refine lP ?_ | (refine lPg ?_; intro w hw)) | (apply L_mf; refine lMakeFunc ?_) | refine lY ?_) | (apply L_guarded; first | refine lGT ?_ | refine lGF ?_ | (apply L_go; refine lPG ?_) | refine lG ?_)))
    refine W_cond rfl (fun h2 => ?_) (fun h2 => ?_)
    · have h2 : sCore core x = true := h2
      repeat (first | (first | refine W_seq ?_ | refine W_block ?_ | refine W_region ?_ | refine W_skip ?_ | refine W_ret ?_ | refine W_exit ?_) | (first | refine L_nil ?_ | (apply L_plain; first | (apply L_go; first | refine lP ?_ | (refine lPg ?_; intro w hw)) | (apply L_mf; refine lMakeFunc ?_) | refine lY ?_) | (apply L_guarded; first | refine lGT ?_ | refine lGF ?_ | (apply L_go; refine lPG ?_) | refine lG ?_)))
      refine lBuildSlice [enc x] ?_
      intro a4 w hw
      refine lApp (rows2 := [enc x]) ?_ (Wd.own_rd (i := 0) hw rfl)
      intro v' w hw
      repeat (first | (first | refine W_seq ?_ | refine W_block ?_ | refine W_region ?_ | refine W_skip ?_ | refine W_ret ?_ | refine W_exit ?_) | (first | refine L_nil ?_ | (apply L_plain; first | (apply L_go; first | refine lP ?_ | (refine lPg ?_; intro w hw)) | (apply L_mf; refine lMakeFunc ?_) | refine lY ?_) | (apply L_guarded; first | refine lGT ?_ | refine lGF ?_ | (apply L_go; refine lPG ?_) | refine lG ?_)))
      obtain ⟨a5, n5, c5, rfl, -, -, -⟩ := hw.own_shape (i := 2) rfl
      refine W_mix1 [] _ [[],[],[],[],[],[],[0]] [[0],[0],[0],[0],[0],[0],[0]] hw ?_
      repeat (first | refine mY ?_ | refine mP ?_ | refine mEndAt ?_ | refine mEnd0 ?_ | refine mEnd ?_)
      refine mDelS ?_
      repeat (first | refine mY ?_ | refine mP ?_ | refine mEndAt ?_ | refine mEnd0 ?_ | refine mEnd ?_)
      intro w hw
      have hw := Wd.left (S := Res.own _ _ _ _ :: _) hw
      repeat (first | (first | refine W_seq ?_ | refine W_block ?_ | refine W_region ?_ | refine W_skip ?_ | refine W_ret ?_ | refine W_exit ?_) | (first | refine L_nil ?_ | (apply L_plain; first | (apply L_go; first | refine lP ?_ | (refine lPg ?_; intro w hw)) | (apply L_mf; refine lMakeFunc ?_) | refine lY ?_) | (apply L_guarded; first | refine lGT ?_ | refine lGF ?_ | (apply L_go; refine lPG ?_) | refine lG ?_)))
      have htk : ys.take (k + 1) = ys.take k ++ [x] := by rw [List.take_add_one, hx]; rfl
      have hfl : (ys.take (k + 1)).filter (sCore core) = (ys.take k).filter (sCore core) ++ [x] := by rw [htk, List.filter_append]; simp [h2]
      refine ⟨μ - 1, by omega, k + 1, .slice a5 n5 c5, by omega, ⟨rfl, rfl, rfl, rfl, rfl, rfl, trivial⟩, ?_⟩
      rw [hfl]
      have hw := hw.ds [0, 0]
      rw [List.map_append]
      unfold delAll at *
      rw [List.foldl_append]
      exact hw
    · have h2 : sCore core x = false := h2
      repeat (first | (first | refine W_seq ?_ | refine W_block ?_ | refine W_region ?_ | refine W_skip ?_ | refine W_ret ?_ | refine W_exit ?_) | (first | refine L_nil ?_ | (apply L_plain; first | (apply L_go; first | refine lP ?_ | (refine lPg ?_; intro w hw)) | (apply L_mf; refine lMakeFunc ?_) | refine lY ?_) | (apply L_guarded; first | refine lGT ?_ | refine lGF ?_ | (apply L_go; refine lPG ?_) | refine lG ?_)))
      have htk : ys.take (k + 1) = ys.take k ++ [x] := by rw [List.take_add_one, hx]; rfl
      have hfl : (ys.take (k + 1)).filter (sCore core) = (ys.take k).filter (sCore core) := by rw [htk, List.filter_append]; simp [h2]
      refine ⟨μ - 1, by omega, k + 1, .slice a3 n3 c3, by omega, ⟨rfl, rfl, rfl, rfl, rfl, rfl, trivial⟩, ?_⟩
      rw [hfl]
      exact hw.drop
  · have hkn : ¬ k < n2 := by simpa using h
    repeat (first | (first | refine W_seq ?_ | refine W_block ?_ | refine W_region ?_ | refine W_skip ?_ | refine W_ret ?_ | refine W_exit ?_) | (first | refine L_nil ?_ | (apply L_plain; first | (apply L_go; first | refine lP ?_ | (refine lPg ?_; intro w hw)) | (apply L_mf; refine lMakeFunc ?_) | refine lY ?_) | (apply L_guarded; first | refine lGT ?_ | refine lGF ?_ | (apply L_go; refine lPG ?_) | refine lG ?_)))
    have hk2 : ys.take k = ys := List.take_of_length_le (by omega)
    rw [hk2] at hw
    exact ⟨_, rfl, .slice a3 n3 c3, ys, .slice a' n' c', rfl, hys, (hw.ds [1, 4])⟩
end Go.Proofs.YtekdbdhkpolooaaGreat
end
/- Names made from numbers. -/
section
open Go Mk
namespace Go.Proofs.YtekdbdhkpolooaaGreat
set_option maxHeartbeats 400000
attribute [local irreducible] Calls

def digits : ByteArray := ⟨#[48, 49, 50, 51, 52, 53, 54, 55, 56, 57]⟩
def longQ (q r : Nat) : ByteArray := (⟨#[110, 97, 109, 101]⟩ ++ bSub digits q (q + 1)) ++ bSub digits r (r + 1)
def longS (k : Nat) : ByteArray := longQ (k / 10) (k % 10)
theorem bSub_size (s : ByteArray) (l h : Nat) : (bSub s l h).size = min h s.size - l := by simp [bSub]
theorem y_sl1 {P : Program} {d : Option Tmp} {T ty : TypeId} {pos : String} {es : Array Edge} {g : Option (Nat × Bool)} {x lo hi : Operand} {ρ : Fr} {w : World} [TStr P T] {s : ByteArray} {q : Nat} (h1 : ev ρ x = .string s) (h2 : ev ρ lo = .int .i64 (q : Nat)) (h3 : ev ρ hi = .int .i64 ((q : Nat) + 1)) (hs : q + 1 ≤ s.size) :
    Mk.Yields P ⟨d, .slice T x (some lo) (some hi) none, ty, pos, es, g⟩ ρ w (.string (bSub s q (q + 1))) := by
  have h4 := y_sliceSLH (P := P) (w := w) (T := T) (d := d) (ty := ty) (pos := pos) (es := es) (g := g) h1 h2 h3 (by omega) (by omega) (by omega)
  rw [show ((q : Nat) : Int).toNat = q from by omega, show (((q : Nat) : Int) + 1).toNat = q + 1 from by omega] at h4
  exact h4
end Go.Proofs.YtekdbdhkpolooaaGreat
end
/- The example of the chapter. -/
section
open Go Mk
namespace Go.Proofs.YtekdbdhkpolooaaGreat
set_option maxHeartbeats 400000
attribute [local irreducible] Calls

def disk : ByteArray := ⟨#[100, 105, 115, 107]⟩
instance : SB disk := ⟨by decide⟩
theorem awake_any (Γ : Gho) (S : List Res) (w : World) (hw : Wd Γ S w) : Calls Tryz.prog 15 #[] w fun e w' => e = .returned (.bool true) ∧ ∃ S', Wd Γ (S' ++ S) w' := by
  refine calls_of_W Tryz.func15 rfl rfl ?_
  repeat (first | (first | refine W_seq ?_ | refine W_block ?_ | refine W_region ?_ | refine W_skip ?_ | refine W_ret ?_ | refine W_exit ?_) | (first | refine L_nil ?_ | (apply L_plain; first | (apply L_go; first | refine lP ?_ | (refine lPg ?_; intro w hw)) | (apply L_mf; refine lMakeFunc ?_) | refine lY ?_) | (apply L_guarded; first | refine lGT ?_ | refine lGF ?_ | (apply L_go; refine lPG ?_) | refine lG ?_)))
  refine lCall ?_
  refine (New_any Γ S w hw).mono ?_
  rintro e w ⟨b, bm, rfl, hw⟩
  refine ⟨_, rfl, ?_⟩
  repeat (first | (first | refine W_seq ?_ | refine W_block ?_ | refine W_region ?_ | refine W_skip ?_ | refine W_ret ?_ | refine W_exit ?_) | ((first | apply L_bin | apply L_notop); first | (refine lT ?_ ?_; (first | exact rfl | exact decide_eq_true rfl | (simp; done))) | (refine lF ?_ ?_; (first | exact rfl | exact decide_eq_true rfl | (simp; done)))) | (first | refine L_nil ?_ | (apply L_plain; first | (apply L_go; first | refine lP ?_ | (refine lPg ?_; intro w hw)) | (apply L_mf; refine lMakeFunc ?_) | refine lY ?_) | (apply L_guarded; first | refine lGT ?_ | refine lGF ?_ | (apply L_go; refine lPG ?_) | refine lG ?_)) | (refine lAlloc ?_; intro _ w hw) | (refine lBox ?_; intro _ w hw) | (refine lStore ?_; intro w hw))
  refine W_cond_false rfl ?_
  repeat (first | (first | refine W_seq ?_ | refine W_block ?_ | refine W_region ?_ | refine W_skip ?_ | refine W_ret ?_ | refine W_exit ?_) | ((first | apply L_bin | apply L_notop); first | (refine lT ?_ ?_; (first | exact rfl | exact decide_eq_true rfl | (simp; done))) | (refine lF ?_ ?_; (first | exact rfl | exact decide_eq_true rfl | (simp; done)))) | (first | refine L_nil ?_ | (apply L_plain; first | (apply L_go; first | refine lP ?_ | (refine lPg ?_; intro w hw)) | (apply L_mf; refine lMakeFunc ?_) | refine lY ?_) | (apply L_guarded; first | refine lGT ?_ | refine lGF ?_ | (apply L_go; refine lPG ?_) | refine lG ?_)) | (refine lAlloc ?_; intro _ w hw) | (refine lBox ?_; intro _ w hw) | (refine lStore ?_; intro w hw))
  refine lCall ?_
  have e1 : awErr [] [] ⟨4, 1, disk⟩ = 0 := by kernel_rfl
  have e2 : awS [] [] ⟨4, 1, disk⟩ = default := rfl
  have e3 : awF [] [] ⟨4, 1, disk⟩ = false := by kernel_rfl
  have e4 : awW [] [] ⟨4, 1, disk⟩ = [⟨4, 1, disk⟩] := by kernel_rfl
  refine (Await_any Γ S w b bm _ [] [] ⟨4, 1, disk⟩ (by decide) hw).mono ?_
  rintro e w ⟨vs, rfl, hw⟩
  refine ⟨_, rfl, ?_⟩
  rw [e1, e2, e3]
  rw [e4] at hw
  repeat (first | (first | refine W_seq ?_ | refine W_block ?_ | refine W_region ?_ | refine W_skip ?_ | refine W_ret ?_ | refine W_exit ?_) | ((first | apply L_bin | apply L_notop); first | (refine lT ?_ ?_; (first | exact rfl | exact decide_eq_true rfl | (simp; done))) | (refine lF ?_ ?_; (first | exact rfl | exact decide_eq_true rfl | (simp; done)))) | (first | refine L_nil ?_ | (apply L_plain; first | (apply L_go; first | refine lP ?_ | (refine lPg ?_; intro w hw)) | (apply L_mf; refine lMakeFunc ?_) | refine lY ?_) | (apply L_guarded; first | refine lGT ?_ | refine lGF ?_ | (apply L_go; refine lPG ?_) | refine lG ?_)) | (refine lAlloc ?_; intro _ w hw) | (refine lBox ?_; intro _ w hw) | (refine lStore ?_; intro w hw))
  refine lCall ?_
  let v0 : Service := ⟨disk, 2, 64, 1⟩
  have r1 : regErr [] v0 = 0 := by kernel_rfl
  have r2 : regM [] v0 = [(disk, v0)] := by kernel_rfl
  have r3 : regW [] [⟨4, 1, disk⟩] v0 = [] := by kernel_rfl
  have r4 : regF [] [⟨4, 1, disk⟩] v0 = [⟨4, 1, v0⟩] := by kernel_rfl
  haveI : SB v0.Name := ⟨by decide⟩
  refine (Register_any Γ (Res.blk _ _ :: S) w b bm _ [] [⟨4, 1, disk⟩] v0 (by decide) (hw.ps [3, 3, 3])).mono ?_
  rintro e w ⟨fv, vs', rfl, hw⟩
  refine ⟨_, rfl, ?_⟩
  rw [r1]
  rw [r2, r3, r4] at hw
  obtain ⟨af, nf, cf, rfl, hnf, hncf, hcf⟩ := hw.own_shape (i := 0) rfl
  have hnf : nf = 1 := hnf
  subst hnf
  have hr := RdS.own (i := 0) hw rfl
  have hx0 : ([⟨4, 1, v0⟩] : List Found)[0]? = some ⟨4, 1, v0⟩ := rfl
  repeat (first | (first | refine W_seq ?_ | refine W_block ?_ | refine W_region ?_ | refine W_skip ?_ | refine W_ret ?_ | refine W_exit ?_) | ((first | apply L_bin | apply L_notop); first | (refine lT ?_ ?_; (first | exact rfl | exact decide_eq_true rfl | (simp; done))) | (refine lF ?_ ?_; (first | exact rfl | exact decide_eq_true rfl | (simp; done)))) | (first | refine L_nil ?_ | (apply L_plain; first | (apply L_go; first | refine lP ?_ | (refine lPg ?_; intro w hw)) | (apply L_mf; refine lMakeFunc ?_) | refine lY ?_) | (apply L_guarded; first | refine lGT ?_ | refine lGF ?_ | (apply L_go; refine lPG ?_) | refine lG ?_)) | (refine lAlloc ?_; intro _ w hw) | (refine lBox ?_; intro _ w hw) | (refine lStore ?_; intro w hw))
  refine lCall ?_
  refine (Waiters_any Γ (Res.own _ _ _ _ :: Res.blk _ _ :: S) w b bm _ _ _ (by decide) (hw.ps [3, 3, 3])).mono ?_
  rintro e w ⟨v1, rfl, hw⟩
  obtain ⟨a1, n1, c1, rfl, hn1, hnc1, hc1⟩ := hw.own_shape (i := 0) rfl
  have hn1 : n1 = 0 := hn1
  subst hn1
  refine ⟨_, rfl, ?_⟩
  repeat (first | (first | refine W_seq ?_ | refine W_block ?_ | refine W_region ?_ | refine W_skip ?_ | refine W_ret ?_ | refine W_exit ?_) | ((first | apply L_bin | apply L_notop); first | (refine lT ?_ ?_; (first | exact rfl | exact decide_eq_true rfl | (simp; done))) | (refine lF ?_ ?_; (first | exact rfl | exact decide_eq_true rfl | (simp; done)))) | (first | refine L_nil ?_ | (apply L_plain; first | (apply L_go; first | refine lP ?_ | (refine lPg ?_; intro w hw)) | (apply L_mf; refine lMakeFunc ?_) | refine lY ?_) | (apply L_guarded; first | refine lGT ?_ | refine lGF ?_ | (apply L_go; refine lPG ?_) | refine lG ?_)) | (refine lAlloc ?_; intro _ w hw) | (refine lBox ?_; intro _ w hw) | (refine lStore ?_; intro w hw))
  refine lCall ?_
  refine (Services_any Γ (Res.own _ _ _ _ :: Res.own _ _ _ _ :: Res.blk _ _ :: S) w b bm _ _ _ (by decide) (hw.ps [3, 3, 3])).mono ?_
  rintro e w ⟨v2, ys, rfl, hys, hw⟩
  obtain ⟨a2, n2, c2, rfl, hn2, hnc2, hc2⟩ := hw.own_shape (i := 0) rfl
  have hn2 : n2 = 1 := by
    have := hys.perm.length_eq
    simp only [List.length_map] at hn2
    rw [hn2, this]; rfl
  subst hn2
  refine ⟨_, rfl, ?_⟩
  repeat (first | (first | refine W_seq ?_ | refine W_block ?_ | refine W_region ?_ | refine W_skip ?_ | refine W_ret ?_ | refine W_exit ?_) | ((first | apply L_bin | apply L_notop); first | (refine lT ?_ ?_; (first | exact rfl | exact decide_eq_true rfl | (simp; done))) | (refine lF ?_ ?_; (first | exact rfl | exact decide_eq_true rfl | (simp; done)))) | (first | refine L_nil ?_ | (apply L_plain; first | (apply L_go; first | refine lP ?_ | (refine lPg ?_; intro w hw)) | (apply L_mf; refine lMakeFunc ?_) | refine lY ?_) | (apply L_guarded; first | refine lGT ?_ | refine lGF ?_ | (apply L_go; refine lPG ?_) | refine lG ?_)) | (refine lAlloc ?_; intro _ w hw) | (refine lBox ?_; intro _ w hw) | (refine lStore ?_; intro w hw))
  unfold srvL at hw
  exact ⟨_, rfl, rfl, [_, _, _, _, _, _, _], hw⟩
end Go.Proofs.YtekdbdhkpolooaaGreat
end
/- What a map holds when keys are taken out; numbered services and waiters. -/
section
open Go Mk
namespace Go.Proofs.YtekdbdhkpolooaaGreat
set_option maxHeartbeats 400000
attribute [local irreducible] Calls

section
variable {β : Type}
theorem aGet_none {m : List (ByteArray × β)} {a : ByteArray} : aGet m a = none ↔ a ∉ m.map (·.1) := by
  unfold aGet
  cases h : aIx m a with
  | none =>
    simp only [Option.bind_none, true_iff]
    unfold aIx at h
    rw [List.findIdx?_eq_none_iff] at h
    intro hm
    obtain ⟨p, hp, rfl⟩ := List.mem_map.1 hm
    have := h p hp
    simp at this
  | some i =>
    obtain ⟨v, hv⟩ := aIx_get h
    simp only [Option.bind_some, hv, Option.map_some, reduceCtorEq, false_iff, Classical.not_not]
    exact List.mem_map.2 ⟨_, List.mem_of_getElem? hv, rfl⟩
theorem aDel_sub {m : List (ByteArray × β)} {a : ByteArray} : (aDel m a).Sublist m := by
  unfold aDel
  cases aIx m a with
  | none => exact List.Sublist.refl _
  | some i => exact List.eraseIdx_sublist _ _
theorem aDel_len {m : List (ByteArray × β)} {a : ByteArray} (h : a ∈ m.map (·.1)) : (aDel m a).length + 1 = m.length := by
  have h1 : aGet m a ≠ none := fun hn => aGet_none.1 hn h
  unfold aGet at h1
  unfold aDel
  cases hi : aIx m a with
  | none => rw [hi] at h1; simp at h1
  | some i =>
    obtain ⟨v, hv⟩ := aIx_get hi
    have := (List.getElem?_eq_some_iff.1 hv).1
    simp only [List.length_eraseIdx]
    split <;> omega
end
theorem delAll_sub : ∀ (l : List Service) (m : List (ByteArray × Service)), (delAll m l).Sublist m
  | [], _ => List.Sublist.refl _
  | x :: l, m => (delAll_sub l (aDel m x.Name)).trans aDel_sub
theorem delAll_none {l : List Service} {m : List (ByteArray × Service)} {a : ByteArray} (h : aGet m a = none) : aGet (delAll m l) a = none := by
  rw [aGet_none] at h ⊢
  exact fun hm => h (((delAll_sub l m).map _).subset hm)
theorem delAll_lt {x : Service} {l : List Service} {m : List (ByteArray × Service)} (h : x.Name ∈ m.map (·.1)) : (delAll m (x :: l)).length < m.length := by
  have h1 := (delAll_sub l (aDel m x.Name)).length_le
  have h2 := aDel_len h
  show (delAll (aDel m x.Name) l).length < _
  omega

def other : ByteArray := ⟨#[111, 116, 104, 101, 114]⟩
def third : ByteArray := ⟨#[116, 104, 105, 114, 100]⟩
def lsvc (i : Nat) : Service := ⟨longS i, (i % 32 : Nat), 0, 0⟩
def rm (k : Nat) : List (ByteArray × Service) := (List.range k).map fun i => (longS i, lsvc i)
def wtr (i : Nat) : Waiter := ⟨(i : Int) + 1, (i % 32 : Nat), other⟩
def wm (k : Nat) : List Waiter := (List.range k).map wtr
theorem all_range {p : Nat → Bool} {n k : Nat} (h : (List.range n).all p = true) (hk : k < n) : p k = true := List.all_eq_true.1 h k (List.mem_range.2 hk)
theorem reg0 {k : Nat} (hk : k < 64) : regErr (rm k) (lsvc k) = 0 := of_decide_eq_true (all_range (p := fun k => decide (regErr (rm k) (lsvc k) = 0)) (n := 64) (by kernel_rfl) hk)
theorem reg1 {k : Nat} (hk : k < 64) : regM (rm k) (lsvc k) = rm (k + 1) := of_decide_eq_true (all_range (p := fun k => decide (regM (rm k) (lsvc k) = rm (k + 1))) (n := 64) (by kernel_rfl) hk)
theorem reg2 {k : Nat} : regW (rm k) [] (lsvc k) = [] := by unfold regW; split <;> rfl
theorem reg3 {k : Nat} : regF (rm k) [] (lsvc k) = [] := by unfold regF; split <;> rfl
theorem lsize {k : Nat} (hk : k < 64) : (longS k).size = 6 := of_decide_eq_true (all_range (p := fun k => decide ((longS k).size = 6)) (n := 64) (by kernel_rfl) hk)
theorem rm_len {k : Nat} : (rm k).length = k := by simp [rm]
theorem wm_len {k : Nat} : (wm k).length = k := by simp [wm]
theorem aw0 {k : Nat} (hk : k < 64) : awErr (rm 64) (wm k) (wtr k) = 0 := of_decide_eq_true (all_range (p := fun k => decide (awErr (rm 64) (wm k) (wtr k) = 0)) (n := 64) (by kernel_rfl) hk)
theorem other_none : aGet (rm 64) other = none := by kernel_rfl
theorem third_none : aGet (rm 64) third = none := by kernel_rfl
theorem aw1 {k : Nat} (hk : k < 64) : awW (rm 64) (wm k) (wtr k) = wm (k + 1) := by
  have : (aGet (rm 64) (wtr k).Name).isNone = true := by rw [show (wtr k).Name = other from rfl, other_none]; rfl
  unfold awW; rw [if_pos ⟨aw0 hk, this⟩]
  simp [wm, List.range_succ]
theorem aw2 {k : Nat} : awF (rm 64) (wm k) (wtr k) = false := by
  unfold awF; rw [show (wtr k).Name = other from rfl, other_none]; simp
theorem reg15 : regErr (rm 64) ⟨other, 0, 0, 0⟩ = 15 := by kernel_rfl
theorem aw15 {c : Nat} (hc : c < 32) : awErr (rm 64) (wm 64) ⟨1000, c, third⟩ = 15 := of_decide_eq_true (all_range (p := fun c => decide (awErr (rm 64) (wm 64) ⟨1000, (c : Nat), third⟩ = 15)) (n := 32) (by kernel_rfl) hc)
theorem awc {c : Nat} (hc : c < 32) : awErr (rm 64) (wm 64) ⟨1000, c, longS c⟩ = 0 := of_decide_eq_true (all_range (p := fun c => decide (awErr (rm 64) (wm 64) ⟨1000, (c : Nat), longS c⟩ = 0)) (n := 32) (by kernel_rfl) hc)
theorem getc {c : Nat} (hc : c < 32) : aGet (rm 64) (longS c) = some (lsvc c) := of_decide_eq_true (all_range (p := fun c => decide (aGet (rm 64) (longS c) = some (lsvc c))) (n := 32) (by kernel_rfl) hc)
theorem gone2 {c : Nat} (hc : c < 32) : (((rm 64).map (·.2)).filter (sCore c)).length = 2 := of_decide_eq_true (all_range (p := fun c => decide ((((rm 64).map (·.2)).filter (sCore (c : Nat))).length = 2)) (n := 32) (by kernel_rfl) hc)
theorem left62 {c : Nat} (hc : c < 32) : ((wm 64).filter fun x => !ofCore c x).length = 62 := of_decide_eq_true (all_range (p := fun c => decide (((wm 64).filter fun x => !ofCore (c : Nat) x).length = 62)) (n := 32) (by kernel_rfl) hc)
theorem found62 {c : Nat} (hc : c < 32) (v : Service) (hv : v.Name = other) : (foundOf v ((wm 64).filter fun x => !ofCore c x)).length = 62 := by
  unfold foundOf
  rw [List.length_map, List.filter_eq_self.2, left62 hc]
  intro x hx
  obtain ⟨i, _, rfl⟩ := List.mem_map.1 (List.mem_filter.1 hx).1
  rw [hv]; exact decide_eq_true rfl
end Go.Proofs.YtekdbdhkpolooaaGreat
end
/- The reference's name server: looking up, waiting, taking off. -/
section
open Go Mk
namespace Go.Proofs.YtekdbdhkpolooaaGreat
set_option maxHeartbeats 2000000
attribute [local irreducible] Calls

/-- The reference's state in memory. -/
def refL (b : Nat) (v1 v2 : Value) (ss : List Service) (ws : List Waiter) : List Res := [.blk b (.cells #[v1, v2] 29), .own v1 32 4 (ss.map enc), .own v2 34 3 (ws.map enc)]
def isN (name : ByteArray) (x : Service) : Bool := decide (x.Name = name)

theorem rAt_any (Γ : Gho) (S : List Res) (w : World) (b : Nat) (v1 v2 : Value) (ss : List Service) (ws : List Waiter) (name : ByteArray) (hw : Wd Γ (refL b v1 v2 ss ws ++ S) w) :
    Calls Tryz.prog 51 #[.pointer (some ⟨b, 0, none⟩), .string name] w fun e w' => e = .returned (.int .i64 (ixZ (ss.findIdx? (isN name)))) ∧ Wd Γ (refL b v1 v2 ss ws ++ S) w' := by
  unfold refL at *
  obtain ⟨a, n, c, rfl, hn, hnc, hc⟩ := hw.own_shape (i := 1) rfl
  simp only [List.length_map] at hn
  refine calls_of_W Tryz.func51 rfl rfl ?_
  repeat (first | (first | refine W_seq ?_ | refine W_block ?_ | refine W_region ?_ | refine W_skip ?_ | refine W_ret ?_ | refine W_exit ?_) | (first | refine L_nil ?_ | (apply L_plain; first | (apply L_go; first | refine lP ?_ | (refine lPg ?_; intro w hw)) | (apply L_mf; refine lMakeFunc ?_) | refine lY ?_) | (apply L_guarded; first | refine lGT ?_ | refine lGF ?_ | (apply L_go; refine lPG ?_) | refine lG ?_)))
  refine W_loop (fun μ ρ w => ∃ k : Nat, μ + k = n ∧ Has ρ [(0, .pointer (some ⟨b, 0, none⟩)), (1, .string name), (5, .int .i64 k)] ∧ Wd Γ (.blk b (.cells #[.slice a n c, v2] 29) :: .own (.slice a n c) 32 4 (ss.map enc) :: .own v2 34 3 (ws.map enc) :: S) w ∧ ∀ i x, i < k → ss[i]? = some x → isN name x = false) n ⟨0, by omega, ⟨rfl, rfl, rfl, trivial⟩, hw, fun i x h => absurd h (Nat.not_lt_zero i)⟩ ?_
  rintro μ ρ w ⟨k, hk, hρ, hw, hi⟩
  rw [hρ.eq]
  repeat (first | (first | refine W_seq ?_ | refine W_block ?_ | refine W_region ?_ | refine W_skip ?_ | refine W_ret ?_ | refine W_exit ?_) | (first | refine L_nil ?_ | (apply L_plain; first | (apply L_go; first | refine lP ?_ | (refine lPg ?_; intro w hw)) | (apply L_mf; refine lMakeFunc ?_) | refine lY ?_) | (apply L_guarded; first | refine lGT ?_ | refine lGF ?_ | (apply L_go; refine lPG ?_) | refine lG ?_)))
  refine W_cond rfl (fun h => ?_) (fun h => ?_)
  · have hkn : k < n := by simpa using h
    obtain ⟨x, hx⟩ := get_lt (l := ss) (k := k) (by omega)
    repeat (first | (first | refine W_seq ?_ | refine W_block ?_ | refine W_region ?_ | refine W_skip ?_ | refine W_ret ?_ | refine W_exit ?_) | (first | refine L_nil ?_ | (apply L_plain; first | (apply L_go; first | refine lP ?_ | (refine lPg ?_; intro w hw)) | (apply L_mf; refine lMakeFunc ?_) | refine lY ?_) | (apply L_guarded; first | refine lGT ?_ | refine lGF ?_ | (apply L_go; refine lPG ?_) | refine lG ?_)))
    refine W_cond rfl (fun h2 => ?_) (fun h2 => ?_)
    · repeat (first | (first | refine W_seq ?_ | refine W_block ?_ | refine W_region ?_ | refine W_skip ?_ | refine W_ret ?_ | refine W_exit ?_) | (first | refine L_nil ?_ | (apply L_plain; first | (apply L_go; first | refine lP ?_ | (refine lPg ?_; intro w hw)) | (apply L_mf; refine lMakeFunc ?_) | refine lY ?_) | (apply L_guarded; first | refine lGT ?_ | refine lGF ?_ | (apply L_go; refine lPG ?_) | refine lG ?_)))
      have hf := findIdx_at (p := isN name) hx h2 hi
      rw [hf]
      exact ⟨_, rfl, ret_i rfl rfl, hw⟩
    · repeat (first | (first | refine W_seq ?_ | refine W_block ?_ | refine W_region ?_ | refine W_skip ?_ | refine W_ret ?_ | refine W_exit ?_) | (first | refine L_nil ?_ | (apply L_plain; first | (apply L_go; first | refine lP ?_ | (refine lPg ?_; intro w hw)) | (apply L_mf; refine lMakeFunc ?_) | refine lY ?_) | (apply L_guarded; first | refine lGT ?_ | refine lGF ?_ | (apply L_go; refine lPG ?_) | refine lG ?_)))
      refine ⟨μ - 1, by omega, k + 1, by omega, ⟨rfl, rfl, rfl, trivial⟩, hw, fun i y hi' hy => ?_⟩
      by_cases e : i = k
      · subst e; rw [hx] at hy; cases hy; exact h2
      · exact hi i y (by omega) hy
  · repeat (first | (first | refine W_seq ?_ | refine W_block ?_ | refine W_region ?_ | refine W_skip ?_ | refine W_ret ?_ | refine W_exit ?_) | (first | refine L_nil ?_ | (apply L_plain; first | (apply L_go; first | refine lP ?_ | (refine lPg ?_; intro w hw)) | (apply L_mf; refine lMakeFunc ?_) | refine lY ?_) | (apply L_guarded; first | refine lGT ?_ | refine lGF ?_ | (apply L_go; refine lPG ?_) | refine lG ?_)))
    have hkn : ¬ k < n := by simpa using h
    have hf : ss.findIdx? (isN name) = none := List.findIdx?_eq_none_iff.2 (fun x hx => by
      obtain ⟨i, hil, rfl⟩ := List.getElem_of_mem hx
      exact hi i _ (by omega) (List.getElem?_eq_getElem hil))
    rw [hf]
    exact ⟨_, rfl, ret_i rfl rfl, hw⟩

theorem rWaiter_any (Γ : Gho) (S : List Res) (w : World) (b : Nat) (v1 v2 : Value) (ss : List Service) (ws : List Waiter) (token core : Int) (hw : Wd Γ (refL b v1 v2 ss ws ++ S) w) :
    Calls Tryz.prog 53 #[.pointer (some ⟨b, 0, none⟩), .int .i64 token, .int .i64 core] w fun e w' => e = .returned (.int .i64 (ixZ (ws.findIdx? (isW token core)))) ∧ Wd Γ (refL b v1 v2 ss ws ++ S) w' := by
  unfold refL at *
  obtain ⟨a, n, c, rfl, hn, hnc, hc⟩ := hw.own_shape (i := 2) rfl
  simp only [List.length_map] at hn
  refine calls_of_W Tryz.func53 rfl rfl ?_
  repeat (first | (first | refine W_seq ?_ | refine W_block ?_ | refine W_region ?_ | refine W_skip ?_ | refine W_ret ?_ | refine W_exit ?_) | (first | refine L_nil ?_ | (apply L_plain; first | (apply L_go; first | refine lP ?_ | (refine lPg ?_; intro w hw)) | (apply L_mf; refine lMakeFunc ?_) | refine lY ?_) | (apply L_guarded; first | refine lGT ?_ | refine lGF ?_ | (apply L_go; refine lPG ?_) | refine lG ?_)))
  refine W_loop (fun μ ρ w => ∃ k : Nat, μ + k = n ∧ Has ρ [(0, .pointer (some ⟨b, 0, none⟩)), (1, .int .i64 token), (2, .int .i64 core), (7, .int .i64 k)] ∧ Wd Γ (.blk b (.cells #[v1, .slice a n c] 29) :: .own v1 32 4 (ss.map enc) :: .own (.slice a n c) 34 3 (ws.map enc) :: S) w ∧ ∀ i x, i < k → ws[i]? = some x → isW token core x = false) n ⟨0, by omega, ⟨rfl, rfl, rfl, rfl, trivial⟩, hw, fun i x h => absurd h (Nat.not_lt_zero i)⟩ ?_
  rintro μ ρ w ⟨k, hk, hρ, hw, hi⟩
  rw [hρ.eq]
  repeat (first | (first | refine W_seq ?_ | refine W_block ?_ | refine W_region ?_ | refine W_skip ?_ | refine W_ret ?_ | refine W_exit ?_) | (first | refine L_nil ?_ | (apply L_plain; first | (apply L_go; first | refine lP ?_ | (refine lPg ?_; intro w hw)) | (apply L_mf; refine lMakeFunc ?_) | refine lY ?_) | (apply L_guarded; first | refine lGT ?_ | refine lGF ?_ | (apply L_go; refine lPG ?_) | refine lG ?_)))
  refine W_cond rfl (fun h => ?_) (fun h => ?_)
  · have hkn : k < n := by simpa using h
    obtain ⟨x, hx⟩ := get_lt (l := ws) (k := k) (by omega)
    repeat (first | (first | refine W_seq ?_ | refine W_block ?_ | refine W_region ?_ | refine W_skip ?_ | refine W_ret ?_ | refine W_exit ?_) | (first | refine L_nil ?_ | (apply L_plain; first | (apply L_go; first | refine lP ?_ | (refine lPg ?_; intro w hw)) | (apply L_mf; refine lMakeFunc ?_) | refine lY ?_) | (apply L_guarded; first | refine lGT ?_ | refine lGF ?_ | (apply L_go; refine lPG ?_) | refine lG ?_)))
    refine W_cond rfl (fun h2 => ?_) (fun h2 => ?_)
    · repeat (first | (first | refine W_seq ?_ | refine W_block ?_ | refine W_region ?_ | refine W_skip ?_ | refine W_ret ?_ | refine W_exit ?_) | (first | refine L_nil ?_ | (apply L_plain; first | (apply L_go; first | refine lP ?_ | (refine lPg ?_; intro w hw)) | (apply L_mf; refine lMakeFunc ?_) | refine lY ?_) | (apply L_guarded; first | refine lGT ?_ | refine lGF ?_ | (apply L_go; refine lPG ?_) | refine lG ?_)))
      have hf := findIdx_at (p := isW token core) hx h2 hi
      rw [hf]
      exact ⟨_, rfl, ret_i rfl rfl, hw⟩
    · repeat (first | (first | refine W_seq ?_ | refine W_block ?_ | refine W_region ?_ | refine W_skip ?_ | refine W_ret ?_ | refine W_exit ?_) | (first | refine L_nil ?_ | (apply L_plain; first | (apply L_go; first | refine lP ?_ | (refine lPg ?_; intro w hw)) | (apply L_mf; refine lMakeFunc ?_) | refine lY ?_) | (apply L_guarded; first | refine lGT ?_ | refine lGF ?_ | (apply L_go; refine lPG ?_) | refine lG ?_)))
      refine ⟨μ - 1, by omega, k + 1, by omega, ⟨rfl, rfl, rfl, rfl, trivial⟩, hw, fun i y hi' hy => ?_⟩
      by_cases e : i = k
      · subst e; rw [hx] at hy; cases hy; exact h2
      · exact hi i y (by omega) hy
  · repeat (first | (first | refine W_seq ?_ | refine W_block ?_ | refine W_region ?_ | refine W_skip ?_ | refine W_ret ?_ | refine W_exit ?_) | (first | refine L_nil ?_ | (apply L_plain; first | (apply L_go; first | refine lP ?_ | (refine lPg ?_; intro w hw)) | (apply L_mf; refine lMakeFunc ?_) | refine lY ?_) | (apply L_guarded; first | refine lGT ?_ | refine lGF ?_ | (apply L_go; refine lPG ?_) | refine lG ?_)))
    have hkn : ¬ k < n := by simpa using h
    have hf : ws.findIdx? (isW token core) = none := List.findIdx?_eq_none_iff.2 (fun x hx => by
      obtain ⟨i, hil, rfl⟩ := List.getElem_of_mem hx
      exact hi i _ (by omega) (List.getElem?_eq_getElem hil))
    rw [hf]
    exact ⟨_, rfl, ret_i rfl rfl, hw⟩

def rGet (ss : List Service) (name : ByteArray) : Option Service := (ss.findIdx? (isN name)).bind (ss[·]?)
def rLkErr (ss : List Service) (name : ByteArray) : Int := if (rGet ss name).isSome then 0 else 17
theorem rLookup_any (Γ : Gho) (S : List Res) (w : World) (b : Nat) (v1 v2 : Value) (ss : List Service) (ws : List Waiter) (name : ByteArray) (hw : Wd Γ (refL b v1 v2 ss ws ++ S) w) :
    Calls Tryz.prog 24 #[.pointer (some ⟨b, 0, none⟩), .string name] w fun e w' => e = .returned (.tuple #[svcV ((rGet ss name).getD default), .int .i64 (rLkErr ss name)]) ∧ Wd Γ (refL b v1 v2 ss ws ++ S) w' := by
  refine calls_of_WC Tryz.func24 rfl rfl ?_
  repeat (first | (first | refine W_seq ?_ | refine W_block ?_ | refine W_region ?_ | refine W_skip ?_ | refine W_ret ?_ | refine W_exit ?_) | (first | refine L_nil ?_ | (apply L_plain; first | (apply L_go; first | refine lP ?_ | (refine lPg ?_; intro w hw)) | (apply L_mf; refine lMakeFunc ?_) | refine lY ?_) | (apply L_guarded; first | refine lGT ?_ | refine lGF ?_ | (apply L_go; refine lPG ?_) | refine lG ?_)))
  refine lAlloc ?_
  intro br w hw
  repeat (first | (first | refine W_seq ?_ | refine W_block ?_ | refine W_region ?_ | refine W_skip ?_ | refine W_ret ?_ | refine W_exit ?_) | (first | refine L_nil ?_ | (apply L_plain; first | (apply L_go; first | refine lP ?_ | (refine lPg ?_; intro w hw)) | (apply L_mf; refine lMakeFunc ?_) | refine lY ?_) | (apply L_guarded; first | refine lGT ?_ | refine lGF ?_ | (apply L_go; refine lPG ?_) | refine lG ?_)))
  refine lCall ?_
  refine (rAt_any Γ (.blk br _ :: S) w b v1 v2 ss ws name (hw.ps [3, 3, 3])).mono ?_
  rintro e w ⟨rfl, hw⟩
  refine ⟨_, rfl, ?_⟩
  unfold refL at hw
  obtain ⟨a, n, c, rfl, hn, hnc, hc⟩ := hw.own_shape (i := 1) rfl
  simp only [List.length_map] at hn
  cases hf : ss.findIdx? (isN name) with
  | none =>
    have hg : rGet ss name = none := by simp [rGet, hf]
    repeat (first | (first | refine W_seq ?_ | refine W_block ?_ | refine W_region ?_ | refine W_skip ?_ | refine W_ret ?_ | refine W_exit ?_) | (first | refine L_nil ?_ | (apply L_plain; first | (apply L_go; first | refine lP ?_ | (refine lPg ?_; intro w hw)) | (apply L_mf; refine lMakeFunc ?_) | refine lY ?_) | (apply L_guarded; first | refine lGT ?_ | refine lGF ?_ | (apply L_go; refine lPG ?_) | refine lG ?_)))
    refine W_cond rfl (fun h => absurd h (by simp [ixZ])) (fun _ => ?_)
    repeat (first | (first | refine W_seq ?_ | refine W_block ?_ | refine W_region ?_ | refine W_skip ?_ | refine W_ret ?_ | refine W_exit ?_) | (first | refine L_nil ?_ | (apply L_plain; first | (apply L_go; first | refine lP ?_ | (refine lPg ?_; intro w hw)) | (apply L_mf; refine lMakeFunc ?_) | refine lY ?_) | (apply L_guarded; first | refine lGT ?_ | refine lGF ?_ | (apply L_go; refine lPG ?_) | refine lG ?_)) | (refine lAlloc ?_; intro _ w hw) | (refine lBox ?_; intro _ w hw) | (refine lStore ?_; intro w hw))
    refine ⟨[svcV default, .int .i64 17], ⟨resC (i := 3) hw rfl rfl rfl, rfl, trivial⟩, ?_, (hw.dropAt 3)⟩
    rw [hg, show rLkErr ss name = 17 from by simp [rLkErr, hg]]; rfl
  | some k =>
    have hk := findIdx_lt hf
    obtain ⟨x, hx⟩ := get_lt (l := ss) (k := k) (by omega)
    have hg : rGet ss name = some x := by simp [rGet, hf, hx]
    have hz : ixZ (some k) = (k : Int) := rfl
    repeat (first | (first | refine W_seq ?_ | refine W_block ?_ | refine W_region ?_ | refine W_skip ?_ | refine W_ret ?_ | refine W_exit ?_) | (first | refine L_nil ?_ | (apply L_plain; first | (apply L_go; first | refine lP ?_ | (refine lPg ?_; intro w hw)) | (apply L_mf; refine lMakeFunc ?_) | refine lY ?_) | (apply L_guarded; first | refine lGT ?_ | refine lGF ?_ | (apply L_go; refine lPG ?_) | refine lG ?_)))
    refine W_cond rfl (fun _ => ?_) (fun h => absurd h (by simp [hz]))
    repeat (first | (first | refine W_seq ?_ | refine W_block ?_ | refine W_region ?_ | refine W_skip ?_ | refine W_ret ?_ | refine W_exit ?_) | (first | refine L_nil ?_ | (apply L_plain; first | (apply L_go; first | refine lP ?_ | (refine lPg ?_; intro w hw)) | (apply L_mf; refine lMakeFunc ?_) | refine lY ?_) | (apply L_guarded; first | refine lGT ?_ | refine lGF ?_ | (apply L_go; refine lPG ?_) | refine lG ?_)) | (refine lAlloc ?_; intro _ w hw) | (refine lBox ?_; intro _ w hw) | (refine lStore ?_; intro w hw))
    refine ⟨[svcV x, .int .i64 0], ⟨resC (i := 3) hw rfl rfl rfl, rfl, trivial⟩, ?_, (hw.dropAt 3)⟩
    rw [hg, show rLkErr ss name = 0 from by simp [rLkErr, hg]]; rfl
end Go.Proofs.YtekdbdhkpolooaaGreat
end
/- The reference's name server: taking off, cancelling, waiting. -/
section
open Go Mk
namespace Go.Proofs.YtekdbdhkpolooaaGreat
set_option maxHeartbeats 2000000
attribute [local irreducible] Calls

def ruErr (ss : List Service) (name : ByteArray) (core : Int) : Int := match rGet ss name with | none => 17 | some v => if v.Core = core then 0 else 8
def ruS (ss : List Service) (name : ByteArray) (core : Int) : List Service := if ruErr ss name core = 0 then match ss.findIdx? (isN name) with | some k => ss.eraseIdx k | none => ss else ss
theorem erase_rows {α : Type} [GoT α] (xs : List α) (k : Nat) : (xs.map enc).take k ++ (xs.map enc).drop (k + 1) = (xs.eraseIdx k).map enc := by
  rw [← List.map_take, ← List.map_drop, ← List.map_append, List.eraseIdx_eq_take_drop_succ]
theorem drop_one {α : Type} [GoT α] (xs : List α) (k : Nat) : ∀ u ∈ ((xs.map enc).drop k).flatten, u.oneCell' = true := fun u hu => by
  have := List.all_eq_true.1 (encs_one (xs.drop k)) u
  rw [List.map_drop] at this
  exact this hu

theorem rUnregister_any (Γ : Gho) (S : List Res) (w : World) (b : Nat) (v1 v2 : Value) (ss : List Service) (ws : List Waiter) (name : ByteArray) (core : Int) (hss : ss.length ≤ 64) (hw : Wd Γ (refL b v1 v2 ss ws ++ S) w) :
    Calls Tryz.prog 22 #[.pointer (some ⟨b, 0, none⟩), .string name, .int .i64 core] w fun e w' => ∃ v1', e = .returned (.int .i64 (ruErr ss name core)) ∧ Wd Γ (refL b v1' v2 (ruS ss name core) ws ++ S) w' := by
  refine calls_of_W Tryz.func22 rfl rfl ?_
  repeat (first | (first | refine W_seq ?_ | refine W_block ?_ | refine W_region ?_ | refine W_skip ?_ | refine W_ret ?_ | refine W_exit ?_) | (first | refine L_nil ?_ | (apply L_plain; first | (apply L_go; first | refine lP ?_ | (refine lPg ?_; intro w hw)) | (apply L_mf; refine lMakeFunc ?_) | refine lY ?_) | (apply L_guarded; first | refine lGT ?_ | refine lGF ?_ | (apply L_go; refine lPG ?_) | refine lG ?_)))
  refine lCall ?_
  refine (rAt_any Γ S w b v1 v2 ss ws name hw).mono ?_
  rintro e w ⟨rfl, hw⟩
  refine ⟨_, rfl, ?_⟩
  unfold refL at hw
  obtain ⟨a, n, c, rfl, hn, hnc, hc⟩ := hw.own_shape (i := 1) rfl
  simp only [List.length_map] at hn
  cases hf : ss.findIdx? (isN name) with
  | none =>
    have hE : ruErr ss name core = 17 := by simp [ruErr, rGet, hf]
    repeat (first | (first | refine W_seq ?_ | refine W_block ?_ | refine W_region ?_ | refine W_skip ?_ | refine W_ret ?_ | refine W_exit ?_) | (first | refine L_nil ?_ | (apply L_plain; first | (apply L_go; first | refine lP ?_ | (refine lPg ?_; intro w hw)) | (apply L_mf; refine lMakeFunc ?_) | refine lY ?_) | (apply L_guarded; first | refine lGT ?_ | refine lGF ?_ | (apply L_go; refine lPG ?_) | refine lG ?_)))
    refine W_cond rfl (fun _ => ?_) (fun h => absurd h (by simp [ixZ]))
    repeat (first | (first | refine W_seq ?_ | refine W_block ?_ | refine W_region ?_ | refine W_skip ?_ | refine W_ret ?_ | refine W_exit ?_) | (first | refine L_nil ?_ | (apply L_plain; first | (apply L_go; first | refine lP ?_ | (refine lPg ?_; intro w hw)) | (apply L_mf; refine lMakeFunc ?_) | refine lY ?_) | (apply L_guarded; first | refine lGT ?_ | refine lGF ?_ | (apply L_go; refine lPG ?_) | refine lG ?_)))
    refine ⟨_, rfl, .slice a n c, ret_i rfl hE.symm, ?_⟩
    rw [show ruS ss name core = ss from by simp [ruS, hE]]
    exact hw
  | some k =>
    have hk := findIdx_lt hf
    obtain ⟨x, hx⟩ := get_lt (l := ss) (k := k) (by omega)
    have hz : ixZ (some k) = (k : Int) := rfl
    repeat (first | (first | refine W_seq ?_ | refine W_block ?_ | refine W_region ?_ | refine W_skip ?_ | refine W_ret ?_ | refine W_exit ?_) | (first | refine L_nil ?_ | (apply L_plain; first | (apply L_go; first | refine lP ?_ | (refine lPg ?_; intro w hw)) | (apply L_mf; refine lMakeFunc ?_) | refine lY ?_) | (apply L_guarded; first | refine lGT ?_ | refine lGF ?_ | (apply L_go; refine lPG ?_) | refine lG ?_)))
    refine W_cond rfl (fun h => absurd h (by simp [hz])) (fun _ => ?_)
    rw [hz]
    repeat (first | (first | refine W_seq ?_ | refine W_block ?_ | refine W_region ?_ | refine W_skip ?_ | refine W_ret ?_ | refine W_exit ?_) | (first | refine L_nil ?_ | (apply L_plain; first | (apply L_go; first | refine lP ?_ | (refine lPg ?_; intro w hw)) | (apply L_mf; refine lMakeFunc ?_) | refine lY ?_) | (apply L_guarded; first | refine lGT ?_ | refine lGF ?_ | (apply L_go; refine lPG ?_) | refine lG ?_)))
    refine W_cond rfl (fun h => ?_) (fun h => ?_)
    · have h : ¬ x.Core = core := of_decide_eq_true h
      have hE : ruErr ss name core = 8 := by simp [ruErr, rGet, hf, hx, h]
      repeat (first | (first | refine W_seq ?_ | refine W_block ?_ | refine W_region ?_ | refine W_skip ?_ | refine W_ret ?_ | refine W_exit ?_) | (first | refine L_nil ?_ | (apply L_plain; first | (apply L_go; first | refine lP ?_ | (refine lPg ?_; intro w hw)) | (apply L_mf; refine lMakeFunc ?_) | refine lY ?_) | (apply L_guarded; first | refine lGT ?_ | refine lGF ?_ | (apply L_go; refine lPG ?_) | refine lG ?_)))
      refine ⟨_, rfl, .slice a n c, ret_i rfl hE.symm, ?_⟩
      rw [show ruS ss name core = ss from by simp [ruS, hE]]
      exact hw
    · have h : x.Core = core := by simpa using h
      have hE : ruErr ss name core = 0 := by simp [ruErr, rGet, hf, hx, h]
      repeat (first | (first | refine W_seq ?_ | refine W_block ?_ | refine W_region ?_ | refine W_skip ?_ | refine W_ret ?_ | refine W_exit ?_) | (first | refine L_nil ?_ | (apply L_plain; first | (apply L_go; first | refine lP ?_ | (refine lPg ?_; intro w hw)) | (apply L_mf; refine lMakeFunc ?_) | refine lY ?_) | (apply L_guarded; first | refine lGT ?_ | refine lGF ?_ | (apply L_go; refine lPG ?_) | refine lG ?_)))
      refine W_mix1 [] _ [[],[],[],[],[],[],[],[],[],[],[],[],[],[],[0],[],[],[0]] [[],[],[],[],[0],[],[],[],[],[],[0],[],[],[],[0],[],[],[0]] hw ?_
      repeat (first | refine mY ?_ | refine mP ?_ | refine mEndAt ?_ | refine mEnd0 ?_ | refine mEnd ?_)
      refine mM (v := .slice a (k + (n - (k + 1))) c) (fun _ => .blk b (.cells #[.slice a n c, v2] 29) :: .own (.slice a (k + (n - (k + 1))) c) 32 4 ((ss.eraseIdx k).map enc) :: .own v2 34 3 (ws.map enc) :: S) (fun Y w g hw => ?_) ?_
      · have hrd := (Wd.own_rd (i := 1) hw rfl).cut (c := c) (by simp; omega) (k + 1) (by simp; omega)
        have hw2 := Wd.own_take (i := 1) (m := k) hw rfl (by omega)
        refine s_appendF (i := 1) hw2 rfl rfl rfl hrd (by simp; omega) (drop_one ss (k + 1)) (by omega) (by omega) fun v' w' hfit hw' => ?_
        have hv : v' = .slice a (k + (n - (k + 1))) c := hfit (by show k + (n - (k + 1)) ≤ c; omega)
        subst hv
        rw [erase_rows] at hw'
        exact ⟨hw', fun _ => rfl⟩
      repeat (first | refine mY ?_ | refine mP ?_ | refine mEndAt ?_ | refine mEnd0 ?_ | refine mEnd ?_)
      refine mStoreC ?_
      repeat (first | refine mY ?_ | refine mP ?_ | refine mEndAt ?_ | refine mEnd0 ?_ | refine mEnd ?_)
      intro w hw
      have hw := Wd.left (S := Res.blk _ _ :: _) hw
      repeat (first | (first | refine W_seq ?_ | refine W_block ?_ | refine W_region ?_ | refine W_skip ?_ | refine W_ret ?_ | refine W_exit ?_) | (first | refine L_nil ?_ | (apply L_plain; first | (apply L_go; first | refine lP ?_ | (refine lPg ?_; intro w hw)) | (apply L_mf; refine lMakeFunc ?_) | refine lY ?_) | (apply L_guarded; first | refine lGT ?_ | refine lGF ?_ | (apply L_go; refine lPG ?_) | refine lG ?_)))
      refine ⟨_, rfl, .slice a (k + (n - (k + 1))) c, ret_i rfl hE.symm, ?_⟩
      rw [show ruS ss name core = ss.eraseIdx k from by simp [ruS, hE, hf]]
      exact hw

theorem rCancel_any (Γ : Gho) (S : List Res) (w : World) (b : Nat) (v1 v2 : Value) (ss : List Service) (ws : List Waiter) (token core : Int) (hws : ws.length ≤ 64) (hw : Wd Γ (refL b v1 v2 ss ws ++ S) w) :
    Calls Tryz.prog 28 #[.pointer (some ⟨b, 0, none⟩), .int .i64 token, .int .i64 core] w fun e w' => ∃ v2', e = .returned (.int .i64 (caErr ws token core)) ∧ Wd Γ (refL b v1 v2' ss (caW ws token core) ++ S) w' := by
  refine calls_of_W Tryz.func28 rfl rfl ?_
  repeat (first | (first | refine W_seq ?_ | refine W_block ?_ | refine W_region ?_ | refine W_skip ?_ | refine W_ret ?_ | refine W_exit ?_) | (first | refine L_nil ?_ | (apply L_plain; first | (apply L_go; first | refine lP ?_ | (refine lPg ?_; intro w hw)) | (apply L_mf; refine lMakeFunc ?_) | refine lY ?_) | (apply L_guarded; first | refine lGT ?_ | refine lGF ?_ | (apply L_go; refine lPG ?_) | refine lG ?_)))
  refine lCall ?_
  refine (rWaiter_any Γ S w b v1 v2 ss ws token core hw).mono ?_
  rintro e w ⟨rfl, hw⟩
  refine ⟨_, rfl, ?_⟩
  unfold refL at hw
  obtain ⟨a, n, c, rfl, hn, hnc, hc⟩ := hw.own_shape (i := 2) rfl
  simp only [List.length_map] at hn
  cases hf : ws.findIdx? (isW token core) with
  | none =>
    have hE : caErr ws token core = 17 := by simp [caErr, hf]
    repeat (first | (first | refine W_seq ?_ | refine W_block ?_ | refine W_region ?_ | refine W_skip ?_ | refine W_ret ?_ | refine W_exit ?_) | (first | refine L_nil ?_ | (apply L_plain; first | (apply L_go; first | refine lP ?_ | (refine lPg ?_; intro w hw)) | (apply L_mf; refine lMakeFunc ?_) | refine lY ?_) | (apply L_guarded; first | refine lGT ?_ | refine lGF ?_ | (apply L_go; refine lPG ?_) | refine lG ?_)))
    refine W_cond rfl (fun _ => ?_) (fun h => absurd h (by simp [ixZ]))
    repeat (first | (first | refine W_seq ?_ | refine W_block ?_ | refine W_region ?_ | refine W_skip ?_ | refine W_ret ?_ | refine W_exit ?_) | (first | refine L_nil ?_ | (apply L_plain; first | (apply L_go; first | refine lP ?_ | (refine lPg ?_; intro w hw)) | (apply L_mf; refine lMakeFunc ?_) | refine lY ?_) | (apply L_guarded; first | refine lGT ?_ | refine lGF ?_ | (apply L_go; refine lPG ?_) | refine lG ?_)))
    refine ⟨_, rfl, .slice a n c, ret_i rfl hE.symm, ?_⟩
    rw [show caW ws token core = ws from by simp [caW, hf]]
    exact hw
  | some k =>
    have hk := findIdx_lt hf
    have hE : caErr ws token core = 0 := by simp [caErr, hf]
    have hz : ixZ (some k) = (k : Int) := rfl
    repeat (first | (first | refine W_seq ?_ | refine W_block ?_ | refine W_region ?_ | refine W_skip ?_ | refine W_ret ?_ | refine W_exit ?_) | (first | refine L_nil ?_ | (apply L_plain; first | (apply L_go; first | refine lP ?_ | (refine lPg ?_; intro w hw)) | (apply L_mf; refine lMakeFunc ?_) | refine lY ?_) | (apply L_guarded; first | refine lGT ?_ | refine lGF ?_ | (apply L_go; refine lPG ?_) | refine lG ?_)))
    refine W_cond rfl (fun h => absurd h (by simp [hz])) (fun _ => ?_)
    rw [hz]
    repeat (first | (first | refine W_seq ?_ | refine W_block ?_ | refine W_region ?_ | refine W_skip ?_ | refine W_ret ?_ | refine W_exit ?_) | (first | refine L_nil ?_ | (apply L_plain; first | (apply L_go; first | refine lP ?_ | (refine lPg ?_; intro w hw)) | (apply L_mf; refine lMakeFunc ?_) | refine lY ?_) | (apply L_guarded; first | refine lGT ?_ | refine lGF ?_ | (apply L_go; refine lPG ?_) | refine lG ?_)))
    refine W_mix1 [] _ [[],[],[],[],[],[],[],[],[],[],[],[],[],[],[0],[],[],[0]] [[],[],[],[],[0],[],[],[],[],[],[0],[],[],[],[0],[],[],[0]] hw ?_
    repeat (first | refine mY ?_ | refine mP ?_ | refine mEndAt ?_ | refine mEnd0 ?_ | refine mEnd ?_)
    refine mM (v := .slice a (k + (n - (k + 1))) c) (fun _ => .blk b (.cells #[v1, .slice a n c] 29) :: .own v1 32 4 (ss.map enc) :: .own (.slice a (k + (n - (k + 1))) c) 34 3 ((ws.eraseIdx k).map enc) :: S) (fun Y w g hw => ?_) ?_
    · have hrd := (Wd.own_rd (i := 2) hw rfl).cut (c := c) (by simp; omega) (k + 1) (by simp; omega)
      have hw2 := Wd.own_take (i := 2) (m := k) hw rfl (by omega)
      refine s_appendF (i := 2) hw2 rfl rfl rfl hrd (by simp; omega) (drop_one ws (k + 1)) (by omega) (by omega) fun v' w' hfit hw' => ?_
      have hv : v' = .slice a (k + (n - (k + 1))) c := hfit (by show k + (n - (k + 1)) ≤ c; omega)
      subst hv
      rw [erase_rows] at hw'
      exact ⟨hw', fun _ => rfl⟩
    repeat (first | refine mY ?_ | refine mP ?_ | refine mEndAt ?_ | refine mEnd0 ?_ | refine mEnd ?_)
    refine mStoreC ?_
    repeat (first | refine mY ?_ | refine mP ?_ | refine mEndAt ?_ | refine mEnd0 ?_ | refine mEnd ?_)
    intro w hw
    have hw := Wd.left (S := Res.blk _ _ :: _) hw
    repeat (first | (first | refine W_seq ?_ | refine W_block ?_ | refine W_region ?_ | refine W_skip ?_ | refine W_ret ?_ | refine W_exit ?_) | (first | refine L_nil ?_ | (apply L_plain; first | (apply L_go; first | refine lP ?_ | (refine lPg ?_; intro w hw)) | (apply L_mf; refine lMakeFunc ?_) | refine lY ?_) | (apply L_guarded; first | refine lGT ?_ | refine lGF ?_ | (apply L_go; refine lPG ?_) | refine lG ?_)))
    refine ⟨_, rfl, .slice a (k + (n - (k + 1))) c, ret_i rfl hE.symm, ?_⟩
    rw [show caW ws token core = ws.eraseIdx k from by simp [caW, hf]]
    exact hw
end Go.Proofs.YtekdbdhkpolooaaGreat
end
/- The reference's name server: a core departs; what it reports. -/
section
open Go Mk
namespace Go.Proofs.YtekdbdhkpolooaaGreat
set_option maxHeartbeats 2000000
attribute [local irreducible] Calls

theorem filter_snoc {α : Type} {p : α → Bool} {l : List α} {k : Nat} {x : α} (hx : l[k]? = some x) : (l.take (k + 1)).filter p = (l.take k).filter p ++ if p x = true then [x] else [] := by
  rw [List.take_add_one, hx, List.filter_append]
  cases h : p x <;> simp [h]
theorem filter_take_le {α : Type} {p : α → Bool} {l : List α} {k : Nat} : ((l.take k).filter p).length ≤ l.length :=
  Nat.le_trans (List.length_filter_le _ _) (by rw [List.length_take]; omega)

theorem rDepart_any (Γ : Gho) (S : List Res) (w : World) (b : Nat) (v1 v2 : Value) (ss : List Service) (ws : List Waiter) (core : Int) (hss : ss.length ≤ 64) (hws : ws.length ≤ 64) (hw : Wd Γ (refL b v1 v2 ss ws ++ S) w) :
    Calls Tryz.prog 30 #[.pointer (some ⟨b, 0, none⟩), .int .i64 core] w fun e w' => ∃ v v1' v2', e = .returned v ∧ Wd Γ (.own v 32 4 ((ss.filter (sCore core)).map enc) :: (refL b v1' v2' (ss.filter fun x => !sCore core x) (ws.filter fun x => !ofCore core x) ++ S)) w' := by
  unfold refL at *
  obtain ⟨a, n, c, rfl, hn, hnc, hc⟩ := hw.own_shape (i := 1) rfl
  obtain ⟨a2, n2, c2, rfl, hn2, hnc2, hc2⟩ := hw.own_shape (i := 2) rfl
  simp only [List.length_map] at hn hn2
  refine calls_of_W Tryz.func30 rfl rfl ?_
  repeat (first | (first | refine W_seq ?_ | refine W_block ?_ | refine W_region ?_ | refine W_skip ?_ | refine W_ret ?_ | refine W_exit ?_) | (first | refine L_nil ?_ | (apply L_plain; first | (apply L_go; first | refine lP ?_ | (refine lPg ?_; intro w hw)) | (apply L_mf; refine lMakeFunc ?_) | refine lY ?_) | (apply L_guarded; first | refine lGT ?_ | refine lGF ?_ | (apply L_go; refine lPG ?_) | refine lG ?_)))
  refine W_loop (fun μ ρ w => ∃ (k : Nat) (g g2 : Value), μ + k = n ∧ Has ρ [(0, .pointer (some ⟨b, 0, none⟩)), (1, .int .i64 core), (5, g), (6, g2), (7, .int .i64 k)] ∧ Wd Γ (.own g 32 4 (((ss.take k).filter (sCore core)).map enc) :: .own g2 32 4 (((ss.take k).filter fun x => !sCore core x).map enc) :: .blk b (.cells #[.slice a n c, .slice a2 n2 c2] 29) :: .own (.slice a n c) 32 4 (ss.map enc) :: .own (.slice a2 n2 c2) 34 3 (ws.map enc) :: S) w) n ⟨0, _, _, by omega, ⟨rfl, rfl, rfl, rfl, rfl, trivial⟩, Wd.addNil (Wd.addNil hw)⟩ ?_
  · clear hw
    rintro μ ρ w ⟨k, g, g2, hk, hρ, hw⟩
    rw [hρ.eq]
    obtain ⟨ag, ng, cg, rfl, hng, -, -⟩ := hw.own_shape (i := 0) rfl
    obtain ⟨ah, nh, ch, rfl, hnh, -, -⟩ := hw.own_shape (i := 1) rfl
    have hl1 := filter_take_le (p := sCore core) (l := ss) (k := k)
    have hl2 := filter_take_le (p := fun x => !sCore core x) (l := ss) (k := k)
    simp only [List.length_map] at hng hnh
    repeat (first | (first | refine W_seq ?_ | refine W_block ?_ | refine W_region ?_ | refine W_skip ?_ | refine W_ret ?_ | refine W_exit ?_) | (first | refine L_nil ?_ | (apply L_plain; first | (apply L_go; first | refine lP ?_ | (refine lPg ?_; intro w hw)) | (apply L_mf; refine lMakeFunc ?_) | refine lY ?_) | (apply L_guarded; first | refine lGT ?_ | refine lGF ?_ | (apply L_go; refine lPG ?_) | refine lG ?_)))
    refine W_cond rfl (fun h => ?_) (fun h => ?_)
    · have hkn : k < n := by simpa using h
      obtain ⟨x, hx⟩ := get_lt (l := ss) (k := k) (by omega)
      repeat (first | (first | refine W_seq ?_ | refine W_block ?_ | refine W_region ?_ | refine W_skip ?_ | refine W_ret ?_ | refine W_exit ?_) | (first | refine L_nil ?_ | (apply L_plain; first | (apply L_go; first | refine lP ?_ | (refine lPg ?_; intro w hw)) | (apply L_mf; refine lMakeFunc ?_) | refine lY ?_) | (apply L_guarded; first | refine lGT ?_ | refine lGF ?_ | (apply L_go; refine lPG ?_) | refine lG ?_)))
      refine W_cond rfl (fun h2 => ?_) (fun h2 => ?_)
      · have h2 : sCore core x = true := h2
        repeat (first | (first | refine W_seq ?_ | refine W_block ?_ | refine W_region ?_ | refine W_skip ?_ | refine W_ret ?_ | refine W_exit ?_) | (first | refine L_nil ?_ | (apply L_plain; first | (apply L_go; first | refine lP ?_ | (refine lPg ?_; intro w hw)) | (apply L_mf; refine lMakeFunc ?_) | refine lY ?_) | (apply L_guarded; first | refine lGT ?_ | refine lGF ?_ | (apply L_go; refine lPG ?_) | refine lG ?_)))
        refine lBuildSlice [enc x] ?_
        intro a4 w hw
        refine lApp (rows2 := [enc x]) ?_ (Wd.own_rd (i := 0) hw rfl)
        intro v' w hw
        repeat (first | (first | refine W_seq ?_ | refine W_block ?_ | refine W_region ?_ | refine W_skip ?_ | refine W_ret ?_ | refine W_exit ?_) | (first | refine L_nil ?_ | (apply L_plain; first | (apply L_go; first | refine lP ?_ | (refine lPg ?_; intro w hw)) | (apply L_mf; refine lMakeFunc ?_) | refine lY ?_) | (apply L_guarded; first | refine lGT ?_ | refine lGF ?_ | (apply L_go; refine lPG ?_) | refine lG ?_)))
        refine ⟨μ - 1, by omega, k + 1, v', .slice ah nh ch, by omega, ⟨rfl, rfl, rfl, rfl, rfl, trivial⟩, ?_⟩
        rw [filter_snoc hx, filter_snoc hx, h2]
        simpa using hw.drop
      · have h2 : sCore core x = false := h2
        repeat (first | (first | refine W_seq ?_ | refine W_block ?_ | refine W_region ?_ | refine W_skip ?_ | refine W_ret ?_ | refine W_exit ?_) | (first | refine L_nil ?_ | (apply L_plain; first | (apply L_go; first | refine lP ?_ | (refine lPg ?_; intro w hw)) | (apply L_mf; refine lMakeFunc ?_) | refine lY ?_) | (apply L_guarded; first | refine lGT ?_ | refine lGF ?_ | (apply L_go; refine lPG ?_) | refine lG ?_)))
        refine lBuildSlice [enc x] ?_
        intro a4 w hw
        refine lApp (i := 2) (rows2 := [enc x]) ?_ (Wd.own_rd (i := 0) hw rfl)
        intro v' w hw
        repeat (first | (first | refine W_seq ?_ | refine W_block ?_ | refine W_region ?_ | refine W_skip ?_ | refine W_ret ?_ | refine W_exit ?_) | (first | refine L_nil ?_ | (apply L_plain; first | (apply L_go; first | refine lP ?_ | (refine lPg ?_; intro w hw)) | (apply L_mf; refine lMakeFunc ?_) | refine lY ?_) | (apply L_guarded; first | refine lGT ?_ | refine lGF ?_ | (apply L_go; refine lPG ?_) | refine lG ?_)))
        refine ⟨μ - 1, by omega, k + 1, .slice ag ng cg, v', by omega, ⟨rfl, rfl, rfl, rfl, rfl, trivial⟩, ?_⟩
        rw [filter_snoc hx, filter_snoc hx, h2]
        simpa using hw.drop
    · have hkn : ¬ k < n := by simpa using h
      have hk2 : ss.take k = ss := List.take_of_length_le (by omega)
      rw [hk2] at hw
      clear h hk hl1 hl2 hkn hng hnh
      repeat (first | (first | refine W_seq ?_ | refine W_block ?_ | refine W_region ?_ | refine W_skip ?_ | refine W_ret ?_ | refine W_exit ?_) | (first | refine L_nil ?_ | (apply L_plain; first | (apply L_go; first | refine lP ?_ | (refine lPg ?_; intro w hw)) | (apply L_mf; refine lMakeFunc ?_) | refine lY ?_) | (apply L_guarded; first | refine lGT ?_ | refine lGF ?_ | (apply L_go; refine lPG ?_) | refine lG ?_)))
      refine W_loop (fun μ ρ w => ∃ (k : Nat) (g3 : Value), μ + k = n2 ∧ Has ρ [(0, .pointer (some ⟨b, 0, none⟩)), (1, .int .i64 core), (5, .slice ag ng cg), (6, .slice ah nh ch), (8, g3), (9, .int .i64 k)] ∧ Wd Γ (.own g3 34 3 (((ws.take k).filter fun x => !ofCore core x).map enc) :: .own (.slice a2 n2 c2) 34 3 (ws.map enc) :: .own (.slice ag ng cg) 32 4 ((ss.filter (sCore core)).map enc) :: .own (.slice ah nh ch) 32 4 ((ss.filter fun x => !sCore core x).map enc) :: .blk b (.cells #[.slice a n c, .slice a2 n2 c2] 29) :: S) w) n2 ⟨0, _, by omega, ⟨rfl, rfl, rfl, rfl, rfl, rfl, trivial⟩, Wd.addNil ((hw.ds [3]).ps [3])⟩ ?_
      clear hw hρ ρ
      rintro μ ρ w ⟨k, g, hk, hρ, hw⟩
      rw [hρ.eq]
      obtain ⟨ai, ni, ci, rfl, hni, -, -⟩ := hw.own_shape (i := 0) rfl
      have hl1 := filter_take_le (p := fun x => !ofCore core x) (l := ws) (k := k)
      simp only [List.length_map] at hni
      repeat (first | (first | refine W_seq ?_ | refine W_block ?_ | refine W_region ?_ | refine W_skip ?_ | refine W_ret ?_ | refine W_exit ?_) | (first | refine L_nil ?_ | (apply L_plain; first | (apply L_go; first | refine lP ?_ | (refine lPg ?_; intro w hw)) | (apply L_mf; refine lMakeFunc ?_) | refine lY ?_) | (apply L_guarded; first | refine lGT ?_ | refine lGF ?_ | (apply L_go; refine lPG ?_) | refine lG ?_)))
      refine W_cond rfl (fun h => ?_) (fun h => ?_)
      · have hkn : k < n2 := by simpa using h
        obtain ⟨x, hx⟩ := get_lt (l := ws) (k := k) (by omega)
        repeat (first | (first | refine W_seq ?_ | refine W_block ?_ | refine W_region ?_ | refine W_skip ?_ | refine W_ret ?_ | refine W_exit ?_) | (first | refine L_nil ?_ | (apply L_plain; first | (apply L_go; first | refine lP ?_ | (refine lPg ?_; intro w hw)) | (apply L_mf; refine lMakeFunc ?_) | refine lY ?_) | (apply L_guarded; first | refine lGT ?_ | refine lGF ?_ | (apply L_go; refine lPG ?_) | refine lG ?_)))
        refine W_cond rfl (fun h2 => ?_) (fun h2 => ?_)
        · have h2 : ofCore core x = false := by simpa [ofCore] using h2
          repeat (first | (first | refine W_seq ?_ | refine W_block ?_ | refine W_region ?_ | refine W_skip ?_ | refine W_ret ?_ | refine W_exit ?_) | (first | refine L_nil ?_ | (apply L_plain; first | (apply L_go; first | refine lP ?_ | (refine lPg ?_; intro w hw)) | (apply L_mf; refine lMakeFunc ?_) | refine lY ?_) | (apply L_guarded; first | refine lGT ?_ | refine lGF ?_ | (apply L_go; refine lPG ?_) | refine lG ?_)))
          refine lBuildSlice [enc x] ?_
          intro a4 w hw
          refine lApp (rows2 := [enc x]) ?_ (Wd.own_rd (i := 0) hw rfl)
          intro v' w hw
          repeat (first | (first | refine W_seq ?_ | refine W_block ?_ | refine W_region ?_ | refine W_skip ?_ | refine W_ret ?_ | refine W_exit ?_) | (first | refine L_nil ?_ | (apply L_plain; first | (apply L_go; first | refine lP ?_ | (refine lPg ?_; intro w hw)) | (apply L_mf; refine lMakeFunc ?_) | refine lY ?_) | (apply L_guarded; first | refine lGT ?_ | refine lGF ?_ | (apply L_go; refine lPG ?_) | refine lG ?_)))
          refine ⟨μ - 1, by omega, k + 1, v', by omega, ⟨rfl, rfl, rfl, rfl, rfl, rfl, trivial⟩, ?_⟩
          rw [filter_snoc hx, h2]
          simpa using hw.drop
        · have h2 : ofCore core x = true := by simpa [ofCore] using h2
          repeat (first | (first | refine W_seq ?_ | refine W_block ?_ | refine W_region ?_ | refine W_skip ?_ | refine W_ret ?_ | refine W_exit ?_) | (first | refine L_nil ?_ | (apply L_plain; first | (apply L_go; first | refine lP ?_ | (refine lPg ?_; intro w hw)) | (apply L_mf; refine lMakeFunc ?_) | refine lY ?_) | (apply L_guarded; first | refine lGT ?_ | refine lGF ?_ | (apply L_go; refine lPG ?_) | refine lG ?_)))
          refine ⟨μ - 1, by omega, k + 1, .slice ai ni ci, by omega, ⟨rfl, rfl, rfl, rfl, rfl, rfl, trivial⟩, ?_⟩
          rw [filter_snoc hx, h2]
          simpa using hw
      · have hkn : ¬ k < n2 := by simpa using h
        have hk2 : ws.take k = ws := List.take_of_length_le (by omega)
        rw [hk2] at hw
        repeat (first | (first | refine W_seq ?_ | refine W_block ?_ | refine W_region ?_ | refine W_skip ?_ | refine W_ret ?_ | refine W_exit ?_) | (first | refine L_nil ?_ | (apply L_plain; first | (apply L_go; first | refine lP ?_ | (refine lPg ?_; intro w hw)) | (apply L_mf; refine lMakeFunc ?_) | refine lY ?_) | (apply L_guarded; first | refine lGT ?_ | refine lGF ?_ | (apply L_go; refine lPG ?_) | refine lG ?_)) | (refine lAlloc ?_; intro _ w hw) | (refine lBox ?_; intro _ w hw) | (refine lStore ?_; intro w hw))
        exact ⟨_, rfl, .slice ag ng cg, .slice ah nh ch, .slice ai ni ci, rfl, ((hw.ds [1]).ps [0, 2, 3, 3])⟩
end Go.Proofs.YtekdbdhkpolooaaGreat
end
/- The reference's name server: a service is registered. -/
section
open Go Mk
namespace Go.Proofs.YtekdbdhkpolooaaGreat
set_option maxHeartbeats 2000000
attribute [local irreducible] Calls

def rgErr (ss : List Service) (v : Service) : Int :=
  if nameS v.Name = false then 63 else if badNums v = true then 1 else if (ss.findIdx? (isN v.Name)).isSome then 56 else if 64 ≤ ss.length then 15 else 0
abbrev Asc (ss : List Service) : Prop := ss.Pairwise fun a b => bLt b.Name a.Name = false
/-- v among ss, behind the first k. -/
def insK (v : Service) (ss : List Service) (k : Nat) : List Service := ss.take k ++ v :: ss.drop k
theorem insK_len {v : Service} {ss : List Service} {k : Nat} : (insK v ss k).length = ss.length + 1 := by
  simp only [insK, List.length_append, List.length_take, List.length_cons, List.length_drop]; omega
theorem insK_at {v : Service} {ss : List Service} {k : Nat} (h : k ≤ ss.length) : (insK v ss k)[k]? = some v := by
  unfold insK
  rw [List.getElem?_append_right (by rw [List.length_take]; omega)]
  simp [List.length_take, Nat.min_eq_left h]
theorem insK_bef {v : Service} {ss : List Service} {k : Nat} (h0 : 0 < k) (h : k ≤ ss.length) : (insK v ss k)[k - 1]? = ss[k - 1]? := by
  unfold insK
  rw [List.getElem?_append_left (by rw [List.length_take]; omega), List.getElem?_take_of_lt (by omega)]
theorem insK_step {v y : Service} {ss : List Service} {k : Nat} (h0 : 0 < k) (hy : ss[k - 1]? = some y) : ((insK v ss k).set k y).set (k - 1) v = insK v ss (k - 1) := by
  obtain ⟨hl, hye⟩ := List.getElem?_eq_some_iff.1 hy
  have h1 : ss.take k = ss.take (k - 1) ++ [y] := by
    have := List.take_add_one (l := ss) (i := k - 1)
    rw [show k - 1 + 1 = k from by omega, hy] at this; exact this
  have h2 : ss.drop (k - 1) = y :: ss.drop k := by
    rw [List.drop_eq_getElem_cons hl, hye, show k - 1 + 1 = k from by omega]
  have hlen : (ss.take (k - 1)).length = k - 1 := by rw [List.length_take]; omega
  unfold insK
  rw [h1, h2, List.append_assoc]
  rw [List.set_append_right _ _ (by omega), List.set_append_right _ _ (by omega), hlen]
  rw [show k - (k - 1) = 1 from by omega, Nat.sub_self]
  rfl
theorem insK_perm {v : Service} {ss : List Service} {k : Nat} : (insK v ss k).Perm (ss ++ [v]) := by
  unfold insK
  refine List.perm_middle.trans ?_
  rw [List.take_append_drop]
  exact (List.perm_append_singleton v ss).symm
theorem insK_asc {v : Service} {ss : List Service} {k : Nat} (ha : Asc ss) (hk : k ≤ ss.length) (hB : ∀ x ∈ ss.drop k, bLt v.Name x.Name = true) (hA : k = 0 ∨ ∃ y, ss[k - 1]? = some y ∧ bLt v.Name y.Name = false) : Asc (insK v ss k) := by
  unfold insK Asc
  have hs : (ss.take k ++ ss.drop k).Pairwise fun a b => bLt b.Name a.Name = false := by rw [List.take_append_drop]; exact ha
  rw [List.pairwise_append] at hs ⊢
  refine ⟨hs.1, List.pairwise_cons.2 ⟨fun x hx => bLt_asymm (hB x hx), hs.2.1⟩, fun a haa b hb => ?_⟩
  rcases List.mem_cons.1 hb with rfl | hb
  · rcases hA with rfl | ⟨y, hy, hvy⟩
    · simp at haa
    · obtain ⟨i, hi, hie⟩ := List.getElem_of_mem haa
      rw [List.length_take] at hi
      obtain ⟨hl, hye⟩ := List.getElem?_eq_some_iff.1 hy
      have hay : bLt y.Name a.Name = false := by
        by_cases hik : i = k - 1
        · subst hik
          have : a = y := by rw [← hie, ← hye, List.getElem_take]
          rw [this]; exact bLt_irrefl _
        · have := (List.pairwise_iff_getElem.1 ha) i (k - 1) (by omega) (by omega) (by omega)
          rw [List.getElem_take] at hie
          rw [hie, hye] at this; exact this
      cases hc : bLt b.Name a.Name with
      | false => rfl
      | true =>
        cases hd : bLt y.Name b.Name with
        | true => have := bLt_trans hd hc; rw [this] at hay; cases hay
        | false => rw [bLt_total hvy hd] at hc; rw [hc] at hay; cases hay
  · exact hs.2.2 a haa b hb

theorem rRegister_any (Γ : Gho) (S : List Res) (w : World) (b : Nat) (v1 v2 : Value) (ss : List Service) (ws : List Waiter) (v : Service) [SB v.Name] (hss : ss.length ≤ 64) (hws : ws.length ≤ 64) (ha : Asc ss) (hw : Wd Γ (refL b v1 v2 ss ws ++ S) w) :
    Calls Tryz.prog 19 #[.pointer (some ⟨b, 0, none⟩), .agg (enc v).toArray] w fun e w' => ∃ fv v1' v2' ss', e = .returned (.tuple #[fv, .int .i64 (rgErr ss v)]) ∧ (rgErr ss v ≠ 0 → ss' = ss) ∧ (rgErr ss v = 0 → ss'.Perm (ss ++ [v]) ∧ Asc ss') ∧
      Wd Γ (.own fv 83 6 ((if rgErr ss v = 0 then foundOf v ws else []).map enc) :: (refL b v1' v2' ss' (if rgErr ss v = 0 then ws.filter (fun x => !decide (x.Name = v.Name)) else ws) ++ S)) w' := by
  have e40 : decide (1099511627776 ≤ v.Object) = decide (1099511627775 < v.Object) := by rw [decide_eq_decide]; omega
  refine calls_of_W Tryz.func19 rfl rfl ?_
  repeat (first | (first | refine W_seq ?_ | refine W_block ?_ | refine W_region ?_ | refine W_skip ?_ | refine W_ret ?_ | refine W_exit ?_) | (first | refine L_nil ?_ | (apply L_plain; first | (apply L_go; first | refine lP ?_ | (refine lPg ?_; intro w hw)) | (apply L_mf; refine lMakeFunc ?_) | refine lY ?_) | (apply L_guarded; first | refine lGT ?_ | refine lGF ?_ | (apply L_go; refine lPG ?_) | refine lG ?_)))
  refine lBox ?_
  intro bv w hw
  repeat (first | (first | refine W_seq ?_ | refine W_block ?_ | refine W_region ?_ | refine W_skip ?_ | refine W_ret ?_ | refine W_exit ?_) | (first | refine L_nil ?_ | (apply L_plain; first | (apply L_go; first | refine lP ?_ | (refine lPg ?_; intro w hw)) | (apply L_mf; refine lMakeFunc ?_) | refine lY ?_) | (apply L_guarded; first | refine lGT ?_ | refine lGF ?_ | (apply L_go; refine lPG ?_) | refine lG ?_)))
  have err : ∀ {E : Int} {w}, E ≠ 0 → rgErr ss v = E → Wd Γ (Res.blk bv (.cells (enc v).toArray 32) :: (refL b v1 v2 ss ws ++ S)) w → ∃ fv v1' v2' ss', Ending.returned (.tuple #[.slice none 0 0, .int .i64 E]) = .returned (.tuple #[fv, .int .i64 (rgErr ss v)]) ∧ (rgErr ss v ≠ 0 → ss' = ss) ∧ (rgErr ss v = 0 → ss'.Perm (ss ++ [v]) ∧ Asc ss') ∧
      Wd Γ (.own fv 83 6 ((if rgErr ss v = 0 then foundOf v ws else []).map enc) :: (refL b v1' v2' ss' (if rgErr ss v = 0 then ws.filter (fun x => !decide (x.Name = v.Name)) else ws) ++ S)) w := fun h0 hE hw => by
    rw [hE]
    refine ⟨.slice none 0 0, v1, v2, ss, rfl, fun _ => rfl, fun h => absurd h h0, ?_⟩
    rw [if_neg h0, if_neg h0]
    exact Wd.addNil hw.drop
  refine W_cond rfl (fun h1 => ?_) (fun h1 => ?_)
  · have hE : rgErr ss v = 63 := by simp [rgErr, show nameS v.Name = false from by simpa using h1]
    repeat (first | (first | refine W_seq ?_ | refine W_block ?_ | refine W_region ?_ | refine W_skip ?_ | refine W_ret ?_ | refine W_exit ?_) | (first | refine L_nil ?_ | (apply L_plain; first | (apply L_go; first | refine lP ?_ | (refine lPg ?_; intro w hw)) | (apply L_mf; refine lMakeFunc ?_) | refine lY ?_) | (apply L_guarded; first | refine lGT ?_ | refine lGF ?_ | (apply L_go; refine lPG ?_) | refine lG ?_)))
    exact ⟨_, rfl, err (by decide) hE hw⟩
  have h1 : nameS v.Name = true := by simpa using h1
  repeat (first | (first | refine W_seq ?_ | refine W_block ?_ | refine W_region ?_ | refine W_skip ?_ | refine W_ret ?_ | refine W_exit ?_) | (first | refine L_nil ?_ | (apply L_plain; first | (apply L_go; first | refine lP ?_ | (refine lPg ?_; intro w hw)) | (apply L_mf; refine lMakeFunc ?_) | refine lY ?_) | (apply L_guarded; first | refine lGT ?_ | refine lGF ?_ | (apply L_go; refine lPG ?_) | refine lG ?_)))
  rw [e40]
  refine W_cond rfl (fun h2 => ?_) (fun h2 => ?_)
  · have h2 : badNums v = true := h2
    have hE : rgErr ss v = 1 := by simp [rgErr, h1, h2]
    repeat (first | (first | refine W_seq ?_ | refine W_block ?_ | refine W_region ?_ | refine W_skip ?_ | refine W_ret ?_ | refine W_exit ?_) | (first | refine L_nil ?_ | (apply L_plain; first | (apply L_go; first | refine lP ?_ | (refine lPg ?_; intro w hw)) | (apply L_mf; refine lMakeFunc ?_) | refine lY ?_) | (apply L_guarded; first | refine lGT ?_ | refine lGF ?_ | (apply L_go; refine lPG ?_) | refine lG ?_)))
    exact ⟨_, rfl, err (by decide) hE hw⟩
  have h2 : badNums v = false := h2
  repeat (first | (first | refine W_seq ?_ | refine W_block ?_ | refine W_region ?_ | refine W_skip ?_ | refine W_ret ?_ | refine W_exit ?_) | (first | refine L_nil ?_ | (apply L_plain; first | (apply L_go; first | refine lP ?_ | (refine lPg ?_; intro w hw)) | (apply L_mf; refine lMakeFunc ?_) | refine lY ?_) | (apply L_guarded; first | refine lGT ?_ | refine lGF ?_ | (apply L_go; refine lPG ?_) | refine lG ?_)))
  refine lCall ?_
  refine (rAt_any Γ (.blk bv _ :: S) w b v1 v2 ss ws v.Name (hw.ps [3, 3, 3])).mono ?_
  rintro e w ⟨rfl, hw⟩
  have hw := hw.ps [3]
  refine ⟨_, rfl, ?_⟩
  repeat (first | (first | refine W_seq ?_ | refine W_block ?_ | refine W_region ?_ | refine W_skip ?_ | refine W_ret ?_ | refine W_exit ?_) | (first | refine L_nil ?_ | (apply L_plain; first | (apply L_go; first | refine lP ?_ | (refine lPg ?_; intro w hw)) | (apply L_mf; refine lMakeFunc ?_) | refine lY ?_) | (apply L_guarded; first | refine lGT ?_ | refine lGF ?_ | (apply L_go; refine lPG ?_) | refine lG ?_)))
  refine W_cond rfl (fun h3 => ?_) (fun h3 => ?_)
  · rw [ixZ_ge] at h3
    have hE : rgErr ss v = 56 := by simp [rgErr, h1, h2, h3]
    repeat (first | (first | refine W_seq ?_ | refine W_block ?_ | refine W_region ?_ | refine W_skip ?_ | refine W_ret ?_ | refine W_exit ?_) | (first | refine L_nil ?_ | (apply L_plain; first | (apply L_go; first | refine lP ?_ | (refine lPg ?_; intro w hw)) | (apply L_mf; refine lMakeFunc ?_) | refine lY ?_) | (apply L_guarded; first | refine lGT ?_ | refine lGF ?_ | (apply L_go; refine lPG ?_) | refine lG ?_)))
    exact ⟨_, rfl, err (by decide) hE hw⟩
  rw [ixZ_ge] at h3
  have hw : Wd Γ (Res.blk bv (.cells (enc v).toArray 32) :: (refL b v1 v2 ss ws ++ S)) w := hw
  unfold refL at hw
  obtain ⟨a, n, c, rfl, hn, hnc, hc⟩ := hw.own_shape (i := 2) rfl
  obtain ⟨a2, n2, c2, rfl, hn2, hnc2, hc2⟩ := hw.own_shape (i := 3) rfl
  simp only [List.length_map] at hn hn2
  repeat (first | (first | refine W_seq ?_ | refine W_block ?_ | refine W_region ?_ | refine W_skip ?_ | refine W_ret ?_ | refine W_exit ?_) | (first | refine L_nil ?_ | (apply L_plain; first | (apply L_go; first | refine lP ?_ | (refine lPg ?_; intro w hw)) | (apply L_mf; refine lMakeFunc ?_) | refine lY ?_) | (apply L_guarded; first | refine lGT ?_ | refine lGF ?_ | (apply L_go; refine lPG ?_) | refine lG ?_)))
  refine W_cond rfl (fun h4 => ?_) (fun h4 => ?_)
  · have h4 : 64 ≤ ss.length := by have := of_decide_eq_true h4; omega
    have hE : rgErr ss v = 15 := by simp [rgErr, h1, h2, h3, h4]
    repeat (first | (first | refine W_seq ?_ | refine W_block ?_ | refine W_region ?_ | refine W_skip ?_ | refine W_ret ?_ | refine W_exit ?_) | (first | refine L_nil ?_ | (apply L_plain; first | (apply L_go; first | refine lP ?_ | (refine lPg ?_; intro w hw)) | (apply L_mf; refine lMakeFunc ?_) | refine lY ?_) | (apply L_guarded; first | refine lGT ?_ | refine lGF ?_ | (apply L_go; refine lPG ?_) | refine lG ?_)))
    exact ⟨_, rfl, err (by decide) hE hw⟩
  have h4 : ¬ 64 ≤ ss.length := by have := of_decide_eq_false h4; omega
  have hE : rgErr ss v = 0 := by simp [rgErr, h1, h2, h3, h4]
  clear err
  repeat (first | (first | refine W_seq ?_ | refine W_block ?_ | refine W_region ?_ | refine W_skip ?_ | refine W_ret ?_ | refine W_exit ?_) | (first | refine L_nil ?_ | (apply L_plain; first | (apply L_go; first | refine lP ?_ | (refine lPg ?_; intro w hw)) | (apply L_mf; refine lMakeFunc ?_) | refine lY ?_) | (apply L_guarded; first | refine lGT ?_ | refine lGF ?_ | (apply L_go; refine lPG ?_) | refine lG ?_)))
  refine W_mix2 [_, _] _ [[],[],[],[],[],[],[1],[0],[],[],[0]] [[],[],[],[],[0],[],[1],[0,1],[],[],[0]] [[62], [61]] (hw.ps [3, 1]) ?_
  repeat (first | refine mY ?_ | refine mP ?_ | refine mEndAt ?_ | refine mEnd0 ?_ | refine mEnd ?_)
  refine mBuild [enc v] ?_
  refine mApp ?_
  repeat (first | refine mY ?_ | refine mP ?_ | refine mEndAt ?_ | refine mEnd0 ?_ | refine mEnd ?_)
  refine mStoreV ?_
  refine mEnd fun w g hw => ?_
  have hw := Wd.dropEnd hw
  rw [show ss.map enc ++ [enc v] = (insK v ss n).map enc from by
    rw [insK, List.take_of_length_le (by omega), List.drop_of_length_le (by omega)]; simp] at hw
  have hw : Wd Γ (.blk b (.cells #[g 62, .slice a2 n2 c2] 29) :: .own (g 62) 32 4 ((insK v ss n).map enc) :: .own (.slice a2 n2 c2) 34 3 (ws.map enc) :: .blk bv (.cells (enc v).toArray 32) :: S) w := hw.ps [1, 3, 3]
  generalize g 62 = vv at hw
  obtain ⟨ai, ni, ci, rfl, hni, -, -⟩ := hw.own_shape (i := 1) rfl
  rw [List.length_map, insK_len] at hni
  repeat (first | (first | refine W_seq ?_ | refine W_block ?_ | refine W_region ?_ | refine W_skip ?_ | refine W_ret ?_ | refine W_exit ?_) | (first | refine L_nil ?_ | (apply L_plain; first | (apply L_go; first | refine lP ?_ | (refine lPg ?_; intro w hw)) | (apply L_mf; refine lMakeFunc ?_) | refine lY ?_) | (apply L_guarded; first | refine lGT ?_ | refine lGF ?_ | (apply L_go; refine lPG ?_) | refine lG ?_)))
  refine W_loop (fun μ ρ w => ∃ (k : Nat), μ = k ∧ k ≤ ss.length ∧ (∀ x ∈ ss.drop k, bLt v.Name x.Name = true) ∧ Has ρ [(0, .pointer (some ⟨b, 0, none⟩)), (3, .pointer (some ⟨bv, 0, none⟩)), (6, .int .i64 k)] ∧ Wd Γ (.blk b (.cells #[.slice ai ni ci, .slice a2 n2 c2] 29) :: .own (.slice ai ni ci) 32 4 ((insK v ss k).map enc) :: .own (.slice a2 n2 c2) 34 3 (ws.map enc) :: .blk bv (.cells (enc v).toArray 32) :: S) w) n ⟨n, rfl, by omega, fun x hx => (by rw [List.drop_of_length_le (by omega)] at hx; exact absurd hx (by simp)), ⟨rfl, rfl, by rw [show (n : Int) = ni - 1 from by omega]; rfl, trivial⟩, hw⟩ ?_
  clear hw h1 h2 h3
  rintro k ρ w ⟨_, rfl, hk, hB, hρ, hw⟩
  rw [hρ.eq]
  have hni2 : (insK v ss k).length = ni := by rw [insK_len]; omega
  have hxk := insK_at (v := v) hk
  refine W_seq ?_
  refine W_seq ?_
  obtain ⟨y, hy⟩ : ∃ y : Service, 0 < k → ss[k - 1]? = some y := by
    by_cases h0 : 0 < k
    · obtain ⟨y, hy⟩ := get_lt (l := ss) (k := k - 1) (by omega)
      exact ⟨y, fun _ => hy⟩
    · exact ⟨default, fun h => absurd h h0⟩
  have hyk : 0 < k → (insK v ss k)[((k : Int) - 1).toNat]? = some y := fun h0 => by
    rw [← hy h0, show ((k : Int) - 1).toNat = k - 1 from by omega]; exact insK_bef h0 hk
  refine W_quiet (by kernel_rfl) (by kernel_rfl) hw ?_
  iterate 19 (first | refine Q_nil ?_ | (apply Q_plain; first | (apply Q_go; first | refine qP ?_ | refine qPg ?_) | refine qY ?_) | (apply Q_guarded; first | (apply Q_go; first | refine qPG ?_ | refine qPgG ?_) | refine qG ?_))
  apply Q_guarded
  refine qG ?_ (hy := fun hc w hw => by
    have h0 := hyk (by have := of_decide_eq_true hc; omega)
    exact (by first | (apply m_move; exact y_move (by first | exact (rfl : _ = Value.int _ _) | exact (rfl : _ = Value.bool _) | exact (rfl : _ = Value.string _) | exact (rfl : _ = Value.slice _ _ _) | exact (rfl : _ = Value.pointer _) | exact (rfl : _ = Value.agg _) | exact (rfl : _ = Value.map _) | exact (rfl : _ = Value.tuple _) | exact (rfl : _ = Value.func _ _ _) | exact gvT hc rfl | exact gvT (andL hc) rfl | exact gvT (andL (andL hc)) rfl | exact gvT (andL (andL (andL hc))) rfl | exact rfl)) | (apply m_assign; exact y_assign (by first | exact (rfl : _ = Value.int _ _) | exact (rfl : _ = Value.bool _) | exact (rfl : _ = Value.string _) | exact (rfl : _ = Value.slice _ _ _) | exact (rfl : _ = Value.pointer _) | exact (rfl : _ = Value.agg _) | exact (rfl : _ = Value.map _) | exact (rfl : _ = Value.tuple _) | exact (rfl : _ = Value.func _ _ _) | exact gvT hc rfl | exact gvT (andL hc) rfl | exact gvT (andL (andL hc)) rfl | exact gvT (andL (andL (andL hc))) rfl | exact rfl)) | (apply g_bin; first | (apply m_op .eql; first | exact y_eql (by first | exact rfl | exact gvT hc rfl | exact gvT (andL hc) rfl | exact gvT (andL (andL hc)) rfl | exact gvT (andL (andL (andL hc))) rfl) (by first | exact rfl | exact gvT hc rfl | exact gvT (andL hc) rfl | exact gvT (andL (andL hc)) rfl | exact gvT (andL (andL (andL hc))) rfl) | exact y_eqls (by first | exact rfl | exact gvT hc rfl | exact gvT (andL hc) rfl | exact gvT (andL (andL hc)) rfl | exact gvT (andL (andL (andL hc))) rfl) (by first | exact rfl | exact gvT hc rfl | exact gvT (andL hc) rfl | exact gvT (andL (andL hc)) rfl | exact gvT (andL (andL (andL hc))) rfl) | exact y_eqT (by first | exact rfl | exact gvT hc rfl | exact gvT (andL hc) rfl | exact gvT (andL (andL hc)) rfl | exact gvT (andL (andL (andL hc))) rfl) (by first | exact rfl | exact gvT hc rfl | exact gvT (andL hc) rfl | exact gvT (andL (andL hc)) rfl | exact gvT (andL (andL (andL hc))) rfl) rfl | exact y_eqB (by first | exact rfl | exact gvT hc rfl | exact gvT (andL hc) rfl | exact gvT (andL (andL hc)) rfl | exact gvT (andL (andL (andL hc))) rfl) (by first | exact rfl | exact gvT hc rfl | exact gvT (andL hc) rfl | exact gvT (andL (andL hc)) rfl | exact gvT (andL (andL (andL hc))) rfl) | exact y_eqnS (by first | exact rfl | exact gvT hc rfl | exact gvT (andL hc) rfl | exact gvT (andL (andL hc)) rfl | exact gvT (andL (andL (andL hc))) rfl) (by first | exact rfl | exact gvT hc rfl | exact gvT (andL hc) rfl | exact gvT (andL (andL hc)) rfl | exact gvT (andL (andL (andL hc))) rfl) | exact y_eqnP (by first | exact rfl | exact gvT hc rfl | exact gvT (andL hc) rfl | exact gvT (andL (andL hc)) rfl | exact gvT (andL (andL (andL hc))) rfl) (by first | exact rfl | exact gvT hc rfl | exact gvT (andL hc) rfl | exact gvT (andL (andL hc)) rfl | exact gvT (andL (andL (andL hc))) rfl) | exact y_eqnM (by first | exact rfl | exact gvT hc rfl | exact gvT (andL hc) rfl | exact gvT (andL (andL hc)) rfl | exact gvT (andL (andL (andL hc))) rfl) (by first | exact rfl | exact gvT hc rfl | exact gvT (andL hc) rfl | exact gvT (andL (andL hc)) rfl | exact gvT (andL (andL (andL hc))) rfl)) | (apply m_op .lss; first | exact y_lss (by first | exact rfl | exact gvT hc rfl | exact gvT (andL hc) rfl | exact gvT (andL (andL hc)) rfl | exact gvT (andL (andL (andL hc))) rfl) (by first | exact rfl | exact gvT hc rfl | exact gvT (andL hc) rfl | exact gvT (andL (andL hc)) rfl | exact gvT (andL (andL (andL hc))) rfl) | exact y_lssS (by first | exact rfl | exact gvT hc rfl | exact gvT (andL hc) rfl | exact gvT (andL (andL hc)) rfl | exact gvT (andL (andL (andL hc))) rfl) (by first | exact rfl | exact gvT hc rfl | exact gvT (andL hc) rfl | exact gvT (andL (andL hc)) rfl | exact gvT (andL (andL (andL hc))) rfl)) | (apply m_op .neq; first | exact y_neq (by first | exact rfl | exact gvT hc rfl | exact gvT (andL hc) rfl | exact gvT (andL (andL hc)) rfl | exact gvT (andL (andL (andL hc))) rfl) (by first | exact rfl | exact gvT hc rfl | exact gvT (andL hc) rfl | exact gvT (andL (andL hc)) rfl | exact gvT (andL (andL (andL hc))) rfl) | exact y_neqs (by first | exact rfl | exact gvT hc rfl | exact gvT (andL hc) rfl | exact gvT (andL (andL hc)) rfl | exact gvT (andL (andL (andL hc))) rfl) (by first | exact rfl | exact gvT hc rfl | exact gvT (andL hc) rfl | exact gvT (andL (andL hc)) rfl | exact gvT (andL (andL (andL hc))) rfl) | exact y_neqT (by first | exact rfl | exact gvT hc rfl | exact gvT (andL hc) rfl | exact gvT (andL (andL hc)) rfl | exact gvT (andL (andL (andL hc))) rfl) (by first | exact rfl | exact gvT hc rfl | exact gvT (andL hc) rfl | exact gvT (andL (andL hc)) rfl | exact gvT (andL (andL (andL hc))) rfl) rfl | exact y_neqnS (by first | exact rfl | exact gvT hc rfl | exact gvT (andL hc) rfl | exact gvT (andL (andL hc)) rfl | exact gvT (andL (andL (andL hc))) rfl) (by first | exact rfl | exact gvT hc rfl | exact gvT (andL hc) rfl | exact gvT (andL (andL hc)) rfl | exact gvT (andL (andL (andL hc))) rfl) | exact y_neqnP (by first | exact rfl | exact gvT hc rfl | exact gvT (andL hc) rfl | exact gvT (andL (andL hc)) rfl | exact gvT (andL (andL (andL hc))) rfl) (by first | exact rfl | exact gvT hc rfl | exact gvT (andL hc) rfl | exact gvT (andL (andL hc)) rfl | exact gvT (andL (andL (andL hc))) rfl)) | (apply m_op .leq; first | exact y_leq (by first | exact rfl | exact gvT hc rfl | exact gvT (andL hc) rfl | exact gvT (andL (andL hc)) rfl | exact gvT (andL (andL (andL hc))) rfl) (by first | exact rfl | exact gvT hc rfl | exact gvT (andL hc) rfl | exact gvT (andL (andL hc)) rfl | exact gvT (andL (andL (andL hc))) rfl) | exact y_leqS (by first | exact rfl | exact gvT hc rfl | exact gvT (andL hc) rfl | exact gvT (andL (andL hc)) rfl | exact gvT (andL (andL (andL hc))) rfl) (by first | exact rfl | exact gvT hc rfl | exact gvT (andL hc) rfl | exact gvT (andL (andL hc)) rfl | exact gvT (andL (andL (andL hc))) rfl)) | (apply m_op .gtr; first | exact y_gtr (by first | exact rfl | exact gvT hc rfl | exact gvT (andL hc) rfl | exact gvT (andL (andL hc)) rfl | exact gvT (andL (andL (andL hc))) rfl) (by first | exact rfl | exact gvT hc rfl | exact gvT (andL hc) rfl | exact gvT (andL (andL hc)) rfl | exact gvT (andL (andL (andL hc))) rfl) | exact y_gtrS (by first | exact rfl | exact gvT hc rfl | exact gvT (andL hc) rfl | exact gvT (andL (andL hc)) rfl | exact gvT (andL (andL (andL hc))) rfl) (by first | exact rfl | exact gvT hc rfl | exact gvT (andL hc) rfl | exact gvT (andL (andL hc)) rfl | exact gvT (andL (andL (andL hc))) rfl)) | (apply m_op .geq; first | exact y_geq (by first | exact rfl | exact gvT hc rfl | exact gvT (andL hc) rfl | exact gvT (andL (andL hc)) rfl | exact gvT (andL (andL (andL hc))) rfl) (by first | exact rfl | exact gvT hc rfl | exact gvT (andL hc) rfl | exact gvT (andL (andL hc)) rfl | exact gvT (andL (andL (andL hc))) rfl) | exact y_geqS (by first | exact rfl | exact gvT hc rfl | exact gvT (andL hc) rfl | exact gvT (andL (andL hc)) rfl | exact gvT (andL (andL (andL hc))) rfl) (by first | exact rfl | exact gvT hc rfl | exact gvT (andL hc) rfl | exact gvT (andL (andL hc)) rfl | exact gvT (andL (andL (andL hc))) rfl)) | (apply m_op .add; first | exact y_add64 (by first | exact rfl | exact gvT hc rfl | exact gvT (andL hc) rfl | exact gvT (andL (andL hc)) rfl | exact gvT (andL (andL (andL hc))) rfl) (by first | exact rfl | exact gvT hc rfl | exact gvT (andL hc) rfl | exact gvT (andL (andL hc)) rfl | exact gvT (andL (andL (andL hc))) rfl) (by first | omega | (simp only [Bool.and_eq_true, Bool.not_eq_true', decide_eq_true_eq, decide_eq_false_iff_not, Mk.ne_nilB, Mk.eq_nilB] at hc; omega)) (by first | omega | (simp only [Bool.and_eq_true, Bool.not_eq_true', decide_eq_true_eq, decide_eq_false_iff_not, Mk.ne_nilB, Mk.eq_nilB] at hc; omega)) | exact y_add (by first | exact rfl | exact gvT hc rfl | exact gvT (andL hc) rfl | exact gvT (andL (andL hc)) rfl | exact gvT (andL (andL (andL hc))) rfl) (by first | exact rfl | exact gvT hc rfl | exact gvT (andL hc) rfl | exact gvT (andL (andL hc)) rfl | exact gvT (andL (andL (andL hc))) rfl) | exact y_addS (by first | exact rfl | exact gvT hc rfl | exact gvT (andL hc) rfl | exact gvT (andL (andL hc)) rfl | exact gvT (andL (andL (andL hc))) rfl) (by first | exact rfl | exact gvT hc rfl | exact gvT (andL hc) rfl | exact gvT (andL (andL hc)) rfl | exact gvT (andL (andL (andL hc))) rfl) (by first | omega | (simp only [Bool.and_eq_true, Bool.not_eq_true', decide_eq_true_eq, decide_eq_false_iff_not, Mk.ne_nilB, Mk.eq_nilB] at hc; omega))) | (apply m_op .sub; first | exact y_sub64 (by first | exact rfl | exact gvT hc rfl | exact gvT (andL hc) rfl | exact gvT (andL (andL hc)) rfl | exact gvT (andL (andL (andL hc))) rfl) (by first | exact rfl | exact gvT hc rfl | exact gvT (andL hc) rfl | exact gvT (andL (andL hc)) rfl | exact gvT (andL (andL (andL hc))) rfl) (by first | omega | (simp only [Bool.and_eq_true, Bool.not_eq_true', decide_eq_true_eq, decide_eq_false_iff_not, Mk.ne_nilB, Mk.eq_nilB] at hc; omega)) (by first | omega | (simp only [Bool.and_eq_true, Bool.not_eq_true', decide_eq_true_eq, decide_eq_false_iff_not, Mk.ne_nilB, Mk.eq_nilB] at hc; omega)) | exact y_sub (by first | exact rfl | exact gvT hc rfl | exact gvT (andL hc) rfl | exact gvT (andL (andL hc)) rfl | exact gvT (andL (andL (andL hc))) rfl) (by first | exact rfl | exact gvT hc rfl | exact gvT (andL hc) rfl | exact gvT (andL (andL hc)) rfl | exact gvT (andL (andL (andL hc))) rfl)) | (apply m_op .mul; first | exact y_mul64 (by first | exact rfl | exact gvT hc rfl | exact gvT (andL hc) rfl | exact gvT (andL (andL hc)) rfl | exact gvT (andL (andL (andL hc))) rfl) (by first | exact rfl | exact gvT hc rfl | exact gvT (andL hc) rfl | exact gvT (andL (andL hc)) rfl | exact gvT (andL (andL (andL hc))) rfl) (by first | omega | (simp only [Bool.and_eq_true, Bool.not_eq_true', decide_eq_true_eq, decide_eq_false_iff_not, Mk.ne_nilB, Mk.eq_nilB] at hc; omega)) (by first | omega | (simp only [Bool.and_eq_true, Bool.not_eq_true', decide_eq_true_eq, decide_eq_false_iff_not, Mk.ne_nilB, Mk.eq_nilB] at hc; omega)) | exact y_mul (by first | exact rfl | exact gvT hc rfl | exact gvT (andL hc) rfl | exact gvT (andL (andL hc)) rfl | exact gvT (andL (andL (andL hc))) rfl) (by first | exact rfl | exact gvT hc rfl | exact gvT (andL hc) rfl | exact gvT (andL (andL hc)) rfl | exact gvT (andL (andL (andL hc))) rfl)) | (apply m_op .rem; exact y_rem (by first | exact rfl | exact gvT hc rfl | exact gvT (andL hc) rfl | exact gvT (andL (andL hc)) rfl | exact gvT (andL (andL (andL hc))) rfl) (by first | exact rfl | exact gvT hc rfl | exact gvT (andL hc) rfl | exact gvT (andL (andL hc)) rfl | exact gvT (andL (andL (andL hc))) rfl) (by first | omega | (simp only [Bool.and_eq_true, Bool.not_eq_true', decide_eq_true_eq, decide_eq_false_iff_not, Mk.ne_nilB, Mk.eq_nilB] at hc; omega))) | (apply m_op .quo; exact y_quo (by first | exact rfl | exact gvT hc rfl | exact gvT (andL hc) rfl | exact gvT (andL (andL hc)) rfl | exact gvT (andL (andL (andL hc))) rfl) (by first | exact rfl | exact gvT hc rfl | exact gvT (andL hc) rfl | exact gvT (andL (andL hc)) rfl | exact gvT (andL (andL (andL hc))) rfl) (by first | omega | (simp only [Bool.and_eq_true, Bool.not_eq_true', decide_eq_true_eq, decide_eq_false_iff_not, Mk.ne_nilB, Mk.eq_nilB] at hc; omega))) | (apply m_op .shl; exact y_shl (by first | exact rfl | exact gvT hc rfl | exact gvT (andL hc) rfl | exact gvT (andL (andL hc)) rfl | exact gvT (andL (andL (andL hc))) rfl) (by first | exact rfl | exact gvT hc rfl | exact gvT (andL hc) rfl | exact gvT (andL (andL hc)) rfl | exact gvT (andL (andL (andL hc))) rfl) (by first | omega | (simp only [Bool.and_eq_true, Bool.not_eq_true', decide_eq_true_eq, decide_eq_false_iff_not, Mk.ne_nilB, Mk.eq_nilB] at hc; omega))) | (apply m_op .shr; exact y_shr (by first | exact rfl | exact gvT hc rfl | exact gvT (andL hc) rfl | exact gvT (andL (andL hc)) rfl | exact gvT (andL (andL (andL hc))) rfl) (by first | exact rfl | exact gvT hc rfl | exact gvT (andL hc) rfl | exact gvT (andL (andL hc)) rfl | exact gvT (andL (andL (andL hc))) rfl) (by first | omega | (simp only [Bool.and_eq_true, Bool.not_eq_true', decide_eq_true_eq, decide_eq_false_iff_not, Mk.ne_nilB, Mk.eq_nilB] at hc; omega))) | (apply m_op .and; exact y_and (by first | exact rfl | exact gvT hc rfl | exact gvT (andL hc) rfl | exact gvT (andL (andL hc)) rfl | exact gvT (andL (andL (andL hc))) rfl) (by first | exact rfl | exact gvT hc rfl | exact gvT (andL hc) rfl | exact gvT (andL (andL hc)) rfl | exact gvT (andL (andL (andL hc))) rfl)) | (apply m_op .or; exact y_or (by first | exact rfl | exact gvT hc rfl | exact gvT (andL hc) rfl | exact gvT (andL (andL hc)) rfl | exact gvT (andL (andL (andL hc))) rfl) (by first | exact rfl | exact gvT hc rfl | exact gvT (andL hc) rfl | exact gvT (andL (andL hc)) rfl | exact gvT (andL (andL (andL hc))) rfl)) | (apply m_op .xor; exact y_xor (by first | exact rfl | exact gvT hc rfl | exact gvT (andL hc) rfl | exact gvT (andL (andL hc)) rfl | exact gvT (andL (andL (andL hc))) rfl) (by first | exact rfl | exact gvT hc rfl | exact gvT (andL hc) rfl | exact gvT (andL (andL hc)) rfl | exact gvT (andL (andL (andL hc))) rfl)) | (apply m_op .andNot; exact y_andNot (by first | exact rfl | exact gvT hc rfl | exact gvT (andL hc) rfl | exact gvT (andL (andL hc)) rfl | exact gvT (andL (andL (andL hc))) rfl) (by first | exact rfl | exact gvT hc rfl | exact gvT (andL hc) rfl | exact gvT (andL (andL hc)) rfl | exact gvT (andL (andL (andL hc))) rfl))) | (apply m_loadS; first | exact y_l1b (i := 0) hw (by first | exact rfl | exact gvT hc rfl | exact gvT (andL hc) rfl | exact gvT (andL (andL hc)) rfl | exact gvT (andL (andL (andL hc))) rfl) rfl rfl | exact y_l1b (i := 1) hw (by first | exact rfl | exact gvT hc rfl | exact gvT (andL hc) rfl | exact gvT (andL (andL hc)) rfl | exact gvT (andL (andL (andL hc))) rfl) rfl rfl | exact y_l1b (i := 2) hw (by first | exact rfl | exact gvT hc rfl | exact gvT (andL hc) rfl | exact gvT (andL (andL hc)) rfl | exact gvT (andL (andL (andL hc))) rfl) rfl rfl | exact y_l1b (i := 3) hw (by first | exact rfl | exact gvT hc rfl | exact gvT (andL hc) rfl | exact gvT (andL (andL hc)) rfl | exact gvT (andL (andL (andL hc))) rfl) rfl rfl | exact y_l1b (i := 4) hw (by first | exact rfl | exact gvT hc rfl | exact gvT (andL hc) rfl | exact gvT (andL (andL hc)) rfl | exact gvT (andL (andL (andL hc))) rfl) rfl rfl | exact y_l1b (i := 5) hw (by first | exact rfl | exact gvT hc rfl | exact gvT (andL hc) rfl | exact gvT (andL (andL hc)) rfl | exact gvT (andL (andL (andL hc))) rfl) rfl rfl | exact y_l1b (i := 6) hw (by first | exact rfl | exact gvT hc rfl | exact gvT (andL hc) rfl | exact gvT (andL (andL hc)) rfl | exact gvT (andL (andL (andL hc))) rfl) rfl rfl | exact y_loadEf (by first | exact rfl | exact gvT hc rfl | exact gvT (andL hc) rfl | exact gvT (andL (andL hc)) rfl | exact gvT (andL (andL (andL hc))) rfl) (RepS.rd (by assumption) hw) (rows_map (by assumption)) rfl | exact y_loadEf2 (by first | exact rfl | exact gvT hc rfl | exact gvT (andL hc) rfl | exact gvT (andL (andL hc)) rfl | exact gvT (andL (andL (andL hc))) rfl) (RepS.rd (by assumption) hw) (rows_map (by assumption)) rfl | exact y_loadE1 (by first | exact rfl | exact gvT hc rfl | exact gvT (andL hc) rfl | exact gvT (andL (andL hc)) rfl | exact gvT (andL (andL (andL hc))) rfl) (RepS.rd (by assumption) hw) (rows_map (by assumption)) | exact y_loadF (by first | exact rfl | exact gvT hc rfl | exact gvT (andL hc) rfl | exact gvT (andL (andL hc)) rfl | exact gvT (andL (andL (andL hc))) rfl) (RepS.rd (by assumption) hw) (by assumption) | exact y_loadEf (by first | exact rfl | exact gvT hc rfl | exact gvT (andL hc) rfl | exact gvT (andL (andL hc)) rfl | exact gvT (andL (andL (andL hc))) rfl) (RdS.rd (by assumption) hw) (rows_map (by assumption)) rfl | exact y_loadEf2 (by first | exact rfl | exact gvT hc rfl | exact gvT (andL hc) rfl | exact gvT (andL (andL hc)) rfl | exact gvT (andL (andL (andL hc))) rfl) (RdS.rd (by assumption) hw) (rows_map (by assumption)) rfl | exact y_loadE1 (by first | exact rfl | exact gvT hc rfl | exact gvT (andL hc) rfl | exact gvT (andL (andL hc)) rfl | exact gvT (andL (andL (andL hc))) rfl) (RdS.rd (by assumption) hw) (rows_map (by assumption)) | exact y_loadF (by first | exact rfl | exact gvT hc rfl | exact gvT (andL hc) rfl | exact gvT (andL (andL hc)) rfl | exact gvT (andL (andL (andL hc))) rfl) (RdS.rd (by assumption) hw) (by assumption) | exact y_loadEf (by first | exact rfl | exact gvT hc rfl | exact gvT (andL hc) rfl | exact gvT (andL (andL hc)) rfl | exact gvT (andL (andL (andL hc))) rfl) (RdS.rd (by assumption) hw.left) (rows_map (by assumption)) rfl | exact y_loadEf2 (by first | exact rfl | exact gvT hc rfl | exact gvT (andL hc) rfl | exact gvT (andL (andL hc)) rfl | exact gvT (andL (andL (andL hc))) rfl) (RdS.rd (by assumption) hw.left) (rows_map (by assumption)) rfl | exact y_loadE1 (by first | exact rfl | exact gvT hc rfl | exact gvT (andL hc) rfl | exact gvT (andL (andL hc)) rfl | exact gvT (andL (andL (andL hc))) rfl) (RdS.rd (by assumption) hw.left) (rows_map (by assumption)) | exact y_loadF (by first | exact rfl | exact gvT hc rfl | exact gvT (andL hc) rfl | exact gvT (andL (andL hc)) rfl | exact gvT (andL (andL (andL hc))) rfl) (RdS.rd (by assumption) hw.left) (by assumption) | exact y_loadEf (by first | exact rfl | exact gvT hc rfl | exact gvT (andL hc) rfl | exact gvT (andL (andL hc)) rfl | exact gvT (andL (andL (andL hc))) rfl) (Wd.own_rd (i := 0) hw rfl) (rows_map (by assumption)) rfl | exact y_loadEf2 (by first | exact rfl | exact gvT hc rfl | exact gvT (andL hc) rfl | exact gvT (andL (andL hc)) rfl | exact gvT (andL (andL (andL hc))) rfl) (Wd.own_rd (i := 0) hw rfl) (rows_map (by assumption)) rfl | exact y_loadE1 (by first | exact rfl | exact gvT hc rfl | exact gvT (andL hc) rfl | exact gvT (andL (andL hc)) rfl | exact gvT (andL (andL (andL hc))) rfl) (Wd.own_rd (i := 0) hw rfl) (rows_map (by assumption)) | exact y_loadF (by first | exact rfl | exact gvT hc rfl | exact gvT (andL hc) rfl | exact gvT (andL (andL hc)) rfl | exact gvT (andL (andL (andL hc))) rfl) (Wd.own_rd (i := 0) hw rfl) (by assumption) | exact y_loadEf (by first | exact rfl | exact gvT hc rfl | exact gvT (andL hc) rfl | exact gvT (andL (andL hc)) rfl | exact gvT (andL (andL (andL hc))) rfl) (Wd.own_rd (i := 1) hw rfl) (rows_map (by assumption)) rfl | exact y_loadEf2 (by first | exact rfl | exact gvT hc rfl | exact gvT (andL hc) rfl | exact gvT (andL (andL hc)) rfl | exact gvT (andL (andL (andL hc))) rfl) (Wd.own_rd (i := 1) hw rfl) (rows_map (by assumption)) rfl | exact y_loadE1 (by first | exact rfl | exact gvT hc rfl | exact gvT (andL hc) rfl | exact gvT (andL (andL hc)) rfl | exact gvT (andL (andL (andL hc))) rfl) (Wd.own_rd (i := 1) hw rfl) (rows_map (by assumption)) | exact y_loadF (by first | exact rfl | exact gvT hc rfl | exact gvT (andL hc) rfl | exact gvT (andL (andL hc)) rfl | exact gvT (andL (andL (andL hc))) rfl) (Wd.own_rd (i := 1) hw rfl) (by assumption) | exact y_loadEf (by first | exact rfl | exact gvT hc rfl | exact gvT (andL hc) rfl | exact gvT (andL (andL hc)) rfl | exact gvT (andL (andL (andL hc))) rfl) (Wd.own_rd (i := 2) hw rfl) (rows_map (by assumption)) rfl | exact y_loadEf2 (by first | exact rfl | exact gvT hc rfl | exact gvT (andL hc) rfl | exact gvT (andL (andL hc)) rfl | exact gvT (andL (andL (andL hc))) rfl) (Wd.own_rd (i := 2) hw rfl) (rows_map (by assumption)) rfl | exact y_loadE1 (by first | exact rfl | exact gvT hc rfl | exact gvT (andL hc) rfl | exact gvT (andL (andL hc)) rfl | exact gvT (andL (andL (andL hc))) rfl) (Wd.own_rd (i := 2) hw rfl) (rows_map (by assumption)) | exact y_loadF (by first | exact rfl | exact gvT hc rfl | exact gvT (andL hc) rfl | exact gvT (andL (andL hc)) rfl | exact gvT (andL (andL (andL hc))) rfl) (Wd.own_rd (i := 2) hw rfl) (by assumption) | exact y_loadEf (by first | exact rfl | exact gvT hc rfl | exact gvT (andL hc) rfl | exact gvT (andL (andL hc)) rfl | exact gvT (andL (andL (andL hc))) rfl) (Wd.own_rd (i := 3) hw rfl) (rows_map (by assumption)) rfl | exact y_loadEf2 (by first | exact rfl | exact gvT hc rfl | exact gvT (andL hc) rfl | exact gvT (andL (andL hc)) rfl | exact gvT (andL (andL (andL hc))) rfl) (Wd.own_rd (i := 3) hw rfl) (rows_map (by assumption)) rfl | exact y_loadE1 (by first | exact rfl | exact gvT hc rfl | exact gvT (andL hc) rfl | exact gvT (andL (andL hc)) rfl | exact gvT (andL (andL (andL hc))) rfl) (Wd.own_rd (i := 3) hw rfl) (rows_map (by assumption)) | exact y_loadF (by first | exact rfl | exact gvT hc rfl | exact gvT (andL hc) rfl | exact gvT (andL (andL hc)) rfl | exact gvT (andL (andL (andL hc))) rfl) (Wd.own_rd (i := 3) hw rfl) (by assumption)) | (apply m_loadA; first | exact y_lwb (i := 0) hw (by first | exact rfl | exact gvT hc rfl | exact gvT (andL hc) rfl | exact gvT (andL (andL hc)) rfl | exact gvT (andL (andL (andL hc))) rfl) rfl rfl | exact y_lwb (i := 1) hw (by first | exact rfl | exact gvT hc rfl | exact gvT (andL hc) rfl | exact gvT (andL (andL hc)) rfl | exact gvT (andL (andL (andL hc))) rfl) rfl rfl | exact y_lwb (i := 2) hw (by first | exact rfl | exact gvT hc rfl | exact gvT (andL hc) rfl | exact gvT (andL (andL hc)) rfl | exact gvT (andL (andL (andL hc))) rfl) rfl rfl | exact y_lwb (i := 3) hw (by first | exact rfl | exact gvT hc rfl | exact gvT (andL hc) rfl | exact gvT (andL (andL hc)) rfl | exact gvT (andL (andL (andL hc))) rfl) rfl rfl | exact y_lwb (i := 4) hw (by first | exact rfl | exact gvT hc rfl | exact gvT (andL hc) rfl | exact gvT (andL (andL hc)) rfl | exact gvT (andL (andL (andL hc))) rfl) rfl rfl | exact y_lwb (i := 5) hw (by first | exact rfl | exact gvT hc rfl | exact gvT (andL hc) rfl | exact gvT (andL (andL hc)) rfl | exact gvT (andL (andL (andL hc))) rfl) rfl rfl | exact y_lwb (i := 6) hw (by first | exact rfl | exact gvT hc rfl | exact gvT (andL hc) rfl | exact gvT (andL (andL hc)) rfl | exact gvT (andL (andL (andL hc))) rfl) rfl rfl | exact y_loadE (by first | exact rfl | exact gvT hc rfl | exact gvT (andL hc) rfl | exact gvT (andL (andL hc)) rfl | exact gvT (andL (andL (andL hc))) rfl) (RepS.rd (by assumption) hw) (rows_map (by assumption)) | exact y_loadEsub (by first | exact rfl | exact gvT hc rfl | exact gvT (andL hc) rfl | exact gvT (andL (andL hc)) rfl | exact gvT (andL (andL (andL hc))) rfl) (RepS.rd (by assumption) hw) (rows_map (by assumption)) rfl rfl | exact y_loadE (by first | exact rfl | exact gvT hc rfl | exact gvT (andL hc) rfl | exact gvT (andL (andL hc)) rfl | exact gvT (andL (andL (andL hc))) rfl) (RdS.rd (by assumption) hw) (rows_map (by assumption)) | exact y_loadEsub (by first | exact rfl | exact gvT hc rfl | exact gvT (andL hc) rfl | exact gvT (andL (andL hc)) rfl | exact gvT (andL (andL (andL hc))) rfl) (RdS.rd (by assumption) hw) (rows_map (by assumption)) rfl rfl | exact y_loadE (by first | exact rfl | exact gvT hc rfl | exact gvT (andL hc) rfl | exact gvT (andL (andL hc)) rfl | exact gvT (andL (andL (andL hc))) rfl) (RdS.rd (by assumption) hw.left) (rows_map (by assumption)) | exact y_loadEsub (by first | exact rfl | exact gvT hc rfl | exact gvT (andL hc) rfl | exact gvT (andL (andL hc)) rfl | exact gvT (andL (andL (andL hc))) rfl) (RdS.rd (by assumption) hw.left) (rows_map (by assumption)) rfl rfl | exact y_loadE (by first | exact rfl | exact gvT hc rfl | exact gvT (andL hc) rfl | exact gvT (andL (andL hc)) rfl | exact gvT (andL (andL (andL hc))) rfl) (Wd.own_rd (i := 0) hw rfl) (rows_map (by assumption)) | exact y_loadEsub (by first | exact rfl | exact gvT hc rfl | exact gvT (andL hc) rfl | exact gvT (andL (andL hc)) rfl | exact gvT (andL (andL (andL hc))) rfl) (Wd.own_rd (i := 0) hw rfl) (rows_map (by assumption)) rfl rfl | exact y_loadE (by first | exact rfl | exact gvT hc rfl | exact gvT (andL hc) rfl | exact gvT (andL (andL hc)) rfl | exact gvT (andL (andL (andL hc))) rfl) (Wd.own_rd (i := 1) hw rfl) (rows_map (by assumption)) | exact y_loadEsub (by first | exact rfl | exact gvT hc rfl | exact gvT (andL hc) rfl | exact gvT (andL (andL hc)) rfl | exact gvT (andL (andL (andL hc))) rfl) (Wd.own_rd (i := 1) hw rfl) (rows_map (by assumption)) rfl rfl | exact y_loadE (by first | exact rfl | exact gvT hc rfl | exact gvT (andL hc) rfl | exact gvT (andL (andL hc)) rfl | exact gvT (andL (andL (andL hc))) rfl) (Wd.own_rd (i := 2) hw rfl) (rows_map (by assumption)) | exact y_loadEsub (by first | exact rfl | exact gvT hc rfl | exact gvT (andL hc) rfl | exact gvT (andL (andL hc)) rfl | exact gvT (andL (andL (andL hc))) rfl) (Wd.own_rd (i := 2) hw rfl) (rows_map (by assumption)) rfl rfl | exact y_loadE (by first | exact rfl | exact gvT hc rfl | exact gvT (andL hc) rfl | exact gvT (andL (andL hc)) rfl | exact gvT (andL (andL (andL hc))) rfl) (Wd.own_rd (i := 3) hw rfl) (rows_map (by assumption)) | exact y_loadEsub (by first | exact rfl | exact gvT hc rfl | exact gvT (andL hc) rfl | exact gvT (andL (andL hc)) rfl | exact gvT (andL (andL (andL hc))) rfl) (Wd.own_rd (i := 3) hw rfl) (rows_map (by assumption)) rfl rfl | exact y_lpb (i := 0) hw (by first | exact rfl | exact gvT hc rfl | exact gvT (andL hc) rfl | exact gvT (andL (andL hc)) rfl | exact gvT (andL (andL (andL hc))) rfl) rfl rfl rfl | exact y_lpb (i := 1) hw (by first | exact rfl | exact gvT hc rfl | exact gvT (andL hc) rfl | exact gvT (andL (andL hc)) rfl | exact gvT (andL (andL (andL hc))) rfl) rfl rfl rfl | exact y_lpb (i := 2) hw (by first | exact rfl | exact gvT hc rfl | exact gvT (andL hc) rfl | exact gvT (andL (andL hc)) rfl | exact gvT (andL (andL (andL hc))) rfl) rfl rfl rfl | exact y_lpb (i := 3) hw (by first | exact rfl | exact gvT hc rfl | exact gvT (andL hc) rfl | exact gvT (andL (andL hc)) rfl | exact gvT (andL (andL (andL hc))) rfl) rfl rfl rfl | exact y_lpb (i := 4) hw (by first | exact rfl | exact gvT hc rfl | exact gvT (andL hc) rfl | exact gvT (andL (andL hc)) rfl | exact gvT (andL (andL (andL hc))) rfl) rfl rfl rfl | exact y_lpb (i := 5) hw (by first | exact rfl | exact gvT hc rfl | exact gvT (andL hc) rfl | exact gvT (andL (andL hc)) rfl | exact gvT (andL (andL (andL hc))) rfl) rfl rfl rfl | exact y_lpb (i := 6) hw (by first | exact rfl | exact gvT hc rfl | exact gvT (andL hc) rfl | exact gvT (andL (andL hc)) rfl | exact gvT (andL (andL (andL hc))) rfl) rfl rfl rfl) | (apply m_field; exact y_field (by first | exact rfl | exact gvT hc rfl | exact gvT (andL hc) rfl | exact gvT (andL (andL hc)) rfl | exact gvT (andL (andL (andL hc))) rfl)) | (apply g_idx; first | exact y_idxI hw (by assumption) (by first | exact rfl | exact gvT hc rfl | exact gvT (andL hc) rfl | exact gvT (andL (andL hc)) rfl | exact gvT (andL (andL (andL hc))) rfl) (by first | exact rfl | exact gvT hc rfl | exact gvT (andL hc) rfl | exact gvT (andL (andL hc)) rfl | exact gvT (andL (andL (andL hc))) rfl) (by first | omega | (simp only [Bool.and_eq_true, Bool.not_eq_true', decide_eq_true_eq, decide_eq_false_iff_not, Mk.ne_nilB, Mk.eq_nilB] at hc; omega)) (by first | omega | (simp only [Bool.and_eq_true, Bool.not_eq_true', decide_eq_true_eq, decide_eq_false_iff_not, Mk.ne_nilB, Mk.eq_nilB] at hc; omega)) | exact y_idxO (j := 0) hw rfl (by first | exact rfl | exact gvT hc rfl | exact gvT (andL hc) rfl | exact gvT (andL (andL hc)) rfl | exact gvT (andL (andL (andL hc))) rfl) (by first | exact rfl | exact gvT hc rfl | exact gvT (andL hc) rfl | exact gvT (andL (andL hc)) rfl | exact gvT (andL (andL (andL hc))) rfl) (by first | omega | (simp only [Bool.and_eq_true, Bool.not_eq_true', decide_eq_true_eq, decide_eq_false_iff_not, Mk.ne_nilB, Mk.eq_nilB] at hc; omega)) (by first | omega | (simp only [Bool.and_eq_true, Bool.not_eq_true', decide_eq_true_eq, decide_eq_false_iff_not, Mk.ne_nilB, Mk.eq_nilB] at hc; omega)) | exact y_idxO (j := 1) hw rfl (by first | exact rfl | exact gvT hc rfl | exact gvT (andL hc) rfl | exact gvT (andL (andL hc)) rfl | exact gvT (andL (andL (andL hc))) rfl) (by first | exact rfl | exact gvT hc rfl | exact gvT (andL hc) rfl | exact gvT (andL (andL hc)) rfl | exact gvT (andL (andL (andL hc))) rfl) (by first | omega | (simp only [Bool.and_eq_true, Bool.not_eq_true', decide_eq_true_eq, decide_eq_false_iff_not, Mk.ne_nilB, Mk.eq_nilB] at hc; omega)) (by first | omega | (simp only [Bool.and_eq_true, Bool.not_eq_true', decide_eq_true_eq, decide_eq_false_iff_not, Mk.ne_nilB, Mk.eq_nilB] at hc; omega)) | exact y_idxO (j := 2) hw rfl (by first | exact rfl | exact gvT hc rfl | exact gvT (andL hc) rfl | exact gvT (andL (andL hc)) rfl | exact gvT (andL (andL (andL hc))) rfl) (by first | exact rfl | exact gvT hc rfl | exact gvT (andL hc) rfl | exact gvT (andL (andL hc)) rfl | exact gvT (andL (andL (andL hc))) rfl) (by first | omega | (simp only [Bool.and_eq_true, Bool.not_eq_true', decide_eq_true_eq, decide_eq_false_iff_not, Mk.ne_nilB, Mk.eq_nilB] at hc; omega)) (by first | omega | (simp only [Bool.and_eq_true, Bool.not_eq_true', decide_eq_true_eq, decide_eq_false_iff_not, Mk.ne_nilB, Mk.eq_nilB] at hc; omega)) | exact y_idxO (j := 3) hw rfl (by first | exact rfl | exact gvT hc rfl | exact gvT (andL hc) rfl | exact gvT (andL (andL hc)) rfl | exact gvT (andL (andL (andL hc))) rfl) (by first | exact rfl | exact gvT hc rfl | exact gvT (andL hc) rfl | exact gvT (andL (andL hc)) rfl | exact gvT (andL (andL (andL hc))) rfl) (by first | omega | (simp only [Bool.and_eq_true, Bool.not_eq_true', decide_eq_true_eq, decide_eq_false_iff_not, Mk.ne_nilB, Mk.eq_nilB] at hc; omega)) (by first | omega | (simp only [Bool.and_eq_true, Bool.not_eq_true', decide_eq_true_eq, decide_eq_false_iff_not, Mk.ne_nilB, Mk.eq_nilB] at hc; omega)) | exact y_idxD (RdS.rd (by assumption) hw) (by first | exact rfl | exact gvT hc rfl | exact gvT (andL hc) rfl | exact gvT (andL (andL hc)) rfl | exact gvT (andL (andL (andL hc))) rfl) (by first | exact rfl | exact gvT hc rfl | exact gvT (andL hc) rfl | exact gvT (andL (andL hc)) rfl | exact gvT (andL (andL (andL hc))) rfl) (by first | omega | (simp only [Bool.and_eq_true, Bool.not_eq_true', decide_eq_true_eq, decide_eq_false_iff_not, Mk.ne_nilB, Mk.eq_nilB] at hc; omega)) (by first | omega | (simp only [Bool.and_eq_true, Bool.not_eq_true', decide_eq_true_eq, decide_eq_false_iff_not, Mk.ne_nilB, Mk.eq_nilB] at hc; omega)) | exact y_idxD (RdS.rd (by assumption) hw.left) (by first | exact rfl | exact gvT hc rfl | exact gvT (andL hc) rfl | exact gvT (andL (andL hc)) rfl | exact gvT (andL (andL (andL hc))) rfl) (by first | exact rfl | exact gvT hc rfl | exact gvT (andL hc) rfl | exact gvT (andL (andL hc)) rfl | exact gvT (andL (andL (andL hc))) rfl) (by first | omega | (simp only [Bool.and_eq_true, Bool.not_eq_true', decide_eq_true_eq, decide_eq_false_iff_not, Mk.ne_nilB, Mk.eq_nilB] at hc; omega)) (by first | omega | (simp only [Bool.and_eq_true, Bool.not_eq_true', decide_eq_true_eq, decide_eq_false_iff_not, Mk.ne_nilB, Mk.eq_nilB] at hc; omega))) | (apply g_call; first | exact y_lenS (by first | exact rfl | exact gvT hc rfl | exact gvT (andL hc) rfl | exact gvT (andL (andL hc)) rfl | exact gvT (andL (andL (andL hc))) rfl) | exact y_lenL (by first | exact rfl | exact gvT hc rfl | exact gvT (andL hc) rfl | exact gvT (andL (andL hc)) rfl | exact gvT (andL (andL (andL hc))) rfl) | exact y_cap (by first | exact rfl | exact gvT hc rfl | exact gvT (andL hc) rfl | exact gvT (andL (andL hc)) rfl | exact gvT (andL (andL (andL hc))) rfl) | exact y_min2 (by first | exact rfl | exact gvT hc rfl | exact gvT (andL hc) rfl | exact gvT (andL (andL hc)) rfl | exact gvT (andL (andL (andL hc))) rfl) (by first | exact rfl | exact gvT hc rfl | exact gvT (andL hc) rfl | exact gvT (andL (andL hc)) rfl | exact gvT (andL (andL (andL hc))) rfl) | exact y_max2 (by first | exact rfl | exact gvT hc rfl | exact gvT (andL hc) rfl | exact gvT (andL (andL hc)) rfl | exact gvT (andL (andL (andL hc))) rfl) (by first | exact rfl | exact gvT hc rfl | exact gvT (andL hc) rfl | exact gvT (andL (andL hc)) rfl | exact gvT (andL (andL (andL hc))) rfl) | exact y_lenMs (i := 0) hw (by first | exact rfl | exact gvT hc rfl | exact gvT (andL hc) rfl | exact gvT (andL (andL hc)) rfl | exact gvT (andL (andL (andL hc))) rfl) rfl | exact y_lenMs (i := 1) hw (by first | exact rfl | exact gvT hc rfl | exact gvT (andL hc) rfl | exact gvT (andL (andL hc)) rfl | exact gvT (andL (andL (andL hc))) rfl) rfl | exact y_lenMs (i := 2) hw (by first | exact rfl | exact gvT hc rfl | exact gvT (andL hc) rfl | exact gvT (andL (andL hc)) rfl | exact gvT (andL (andL (andL hc))) rfl) rfl | exact y_lenMs (i := 3) hw (by first | exact rfl | exact gvT hc rfl | exact gvT (andL hc) rfl | exact gvT (andL (andL hc)) rfl | exact gvT (andL (andL (andL hc))) rfl) rfl | exact y_lenMs (i := 4) hw (by first | exact rfl | exact gvT hc rfl | exact gvT (andL hc) rfl | exact gvT (andL (andL hc)) rfl | exact gvT (andL (andL (andL hc))) rfl) rfl) | (apply m_pick; first | exact y_pick_and (by first | exact rfl | exact gvT hc rfl | exact gvT (andL hc) rfl | exact gvT (andL (andL hc)) rfl | exact gvT (andL (andL (andL hc))) rfl) (by first | exact rfl | exact gvA hc rfl | exact gvA (andL hc) rfl | exact gvA (andL (andL hc)) rfl | exact gvA (andL (andL (andL hc))) rfl) (by first | exact rfl | exact gvT hc rfl | exact gvT (andL hc) rfl | exact gvT (andL (andL hc)) rfl | exact gvT (andL (andL (andL hc))) rfl) | exact y_pick_or (by first | exact rfl | exact gvT hc rfl | exact gvT (andL hc) rfl | exact gvT (andL (andL hc)) rfl | exact gvT (andL (andL (andL hc))) rfl) (by first | exact rfl | exact gvT hc rfl | exact gvT (andL hc) rfl | exact gvT (andL (andL hc)) rfl | exact gvT (andL (andL (andL hc))) rfl) (by first | exact rfl | exact gvA hc rfl | exact gvA (andL hc) rfl | exact gvA (andL (andL hc)) rfl | exact gvA (andL (andL (andL hc))) rfl) | exact y_pickT rfl rfl | exact y_pickF rfl rfl) | (apply m_not; exact y_not (by first | exact rfl | exact gvT hc rfl | exact gvT (andL hc) rfl | exact gvT (andL (andL hc)) rfl | exact gvT (andL (andL (andL hc))) rfl)) | (apply m_extract; exact y_extract (by first | exact rfl | exact gvT hc rfl | exact gvT (andL hc) rfl | exact gvT (andL (andL hc)) rfl | exact gvT (andL (andL (andL hc))) rfl) rfl) | (apply m_nil; exact y_nil (by first | exact rfl | exact gvT hc rfl | exact gvT (andL hc) rfl | exact gvT (andL (andL hc)) rfl | exact gvT (andL (andL (andL hc))) rfl)) | (apply m_build; exact y_build rfl) | (apply m_index; exact y_idxS (by first | exact rfl | exact gvT hc rfl | exact gvT (andL hc) rfl | exact gvT (andL (andL hc)) rfl | exact gvT (andL (andL (andL hc))) rfl) (by first | exact rfl | exact gvT hc rfl | exact gvT (andL hc) rfl | exact gvT (andL (andL hc)) rfl | exact gvT (andL (andL (andL hc))) rfl) (by first | omega | (simp only [Bool.and_eq_true, Bool.not_eq_true', decide_eq_true_eq, decide_eq_false_iff_not, Mk.ne_nilB, Mk.eq_nilB] at hc; omega)) (by first | omega | (simp only [Bool.and_eq_true, Bool.not_eq_true', decide_eq_true_eq, decide_eq_false_iff_not, Mk.ne_nilB, Mk.eq_nilB] at hc; omega))) | (apply m_lookup; first | exact y_lookupS2 (i := 0) hw (by first | exact rfl | exact gvT hc rfl | exact gvT (andL hc) rfl | exact gvT (andL (andL hc)) rfl | exact gvT (andL (andL (andL hc))) rfl) (by first | exact rfl | exact gvT hc rfl | exact gvT (andL hc) rfl | exact gvT (andL (andL hc)) rfl | exact gvT (andL (andL (andL hc))) rfl) rfl rfl | exact y_lookupS1 (i := 0) hw (by first | exact rfl | exact gvT hc rfl | exact gvT (andL hc) rfl | exact gvT (andL (andL hc)) rfl | exact gvT (andL (andL (andL hc))) rfl) (by first | exact rfl | exact gvT hc rfl | exact gvT (andL hc) rfl | exact gvT (andL (andL hc)) rfl | exact gvT (andL (andL (andL hc))) rfl) rfl rfl | exact y_lookupS2 (i := 1) hw (by first | exact rfl | exact gvT hc rfl | exact gvT (andL hc) rfl | exact gvT (andL (andL hc)) rfl | exact gvT (andL (andL (andL hc))) rfl) (by first | exact rfl | exact gvT hc rfl | exact gvT (andL hc) rfl | exact gvT (andL (andL hc)) rfl | exact gvT (andL (andL (andL hc))) rfl) rfl rfl | exact y_lookupS1 (i := 1) hw (by first | exact rfl | exact gvT hc rfl | exact gvT (andL hc) rfl | exact gvT (andL (andL hc)) rfl | exact gvT (andL (andL (andL hc))) rfl) (by first | exact rfl | exact gvT hc rfl | exact gvT (andL hc) rfl | exact gvT (andL (andL hc)) rfl | exact gvT (andL (andL (andL hc))) rfl) rfl rfl | exact y_lookupS2 (i := 2) hw (by first | exact rfl | exact gvT hc rfl | exact gvT (andL hc) rfl | exact gvT (andL (andL hc)) rfl | exact gvT (andL (andL (andL hc))) rfl) (by first | exact rfl | exact gvT hc rfl | exact gvT (andL hc) rfl | exact gvT (andL (andL hc)) rfl | exact gvT (andL (andL (andL hc))) rfl) rfl rfl | exact y_lookupS1 (i := 2) hw (by first | exact rfl | exact gvT hc rfl | exact gvT (andL hc) rfl | exact gvT (andL (andL hc)) rfl | exact gvT (andL (andL (andL hc))) rfl) (by first | exact rfl | exact gvT hc rfl | exact gvT (andL hc) rfl | exact gvT (andL (andL hc)) rfl | exact gvT (andL (andL (andL hc))) rfl) rfl rfl | exact y_lookupS2 (i := 3) hw (by first | exact rfl | exact gvT hc rfl | exact gvT (andL hc) rfl | exact gvT (andL (andL hc)) rfl | exact gvT (andL (andL (andL hc))) rfl) (by first | exact rfl | exact gvT hc rfl | exact gvT (andL hc) rfl | exact gvT (andL (andL hc)) rfl | exact gvT (andL (andL (andL hc))) rfl) rfl rfl | exact y_lookupS1 (i := 3) hw (by first | exact rfl | exact gvT hc rfl | exact gvT (andL hc) rfl | exact gvT (andL (andL hc)) rfl | exact gvT (andL (andL (andL hc))) rfl) (by first | exact rfl | exact gvT hc rfl | exact gvT (andL hc) rfl | exact gvT (andL (andL hc)) rfl | exact gvT (andL (andL (andL hc))) rfl) rfl rfl | exact y_lookupS2 (i := 4) hw (by first | exact rfl | exact gvT hc rfl | exact gvT (andL hc) rfl | exact gvT (andL (andL hc)) rfl | exact gvT (andL (andL (andL hc))) rfl) (by first | exact rfl | exact gvT hc rfl | exact gvT (andL hc) rfl | exact gvT (andL (andL hc)) rfl | exact gvT (andL (andL (andL hc))) rfl) rfl rfl | exact y_lookupS1 (i := 4) hw (by first | exact rfl | exact gvT hc rfl | exact gvT (andL hc) rfl | exact gvT (andL (andL hc)) rfl | exact gvT (andL (andL (andL hc))) rfl) (by first | exact rfl | exact gvT hc rfl | exact gvT (andL hc) rfl | exact gvT (andL (andL hc)) rfl | exact gvT (andL (andL (andL hc))) rfl) rfl rfl) | (apply m_slice; first | exact y_sliceL (by first | exact rfl | exact gvT hc rfl | exact gvT (andL hc) rfl | exact gvT (andL (andL hc)) rfl | exact gvT (andL (andL (andL hc))) rfl) (by first | exact rfl | exact gvT hc rfl | exact gvT (andL hc) rfl | exact gvT (andL (andL hc)) rfl | exact gvT (andL (andL (andL hc))) rfl) (by first | omega | (simp only [Bool.and_eq_true, Bool.not_eq_true', decide_eq_true_eq, decide_eq_false_iff_not, Mk.ne_nilB, Mk.eq_nilB] at hc; omega)) (by first | omega | (simp only [Bool.and_eq_true, Bool.not_eq_true', decide_eq_true_eq, decide_eq_false_iff_not, Mk.ne_nilB, Mk.eq_nilB] at hc; omega)) | exact y_sliceH (by first | exact rfl | exact gvT hc rfl | exact gvT (andL hc) rfl | exact gvT (andL (andL hc)) rfl | exact gvT (andL (andL (andL hc))) rfl) (by first | exact rfl | exact gvT hc rfl | exact gvT (andL hc) rfl | exact gvT (andL (andL hc)) rfl | exact gvT (andL (andL (andL hc))) rfl) (by first | omega | (simp only [Bool.and_eq_true, Bool.not_eq_true', decide_eq_true_eq, decide_eq_false_iff_not, Mk.ne_nilB, Mk.eq_nilB] at hc; omega)) (by first | omega | (simp only [Bool.and_eq_true, Bool.not_eq_true', decide_eq_true_eq, decide_eq_false_iff_not, Mk.ne_nilB, Mk.eq_nilB] at hc; omega)) | exact y_sliceLH (by first | exact rfl | exact gvT hc rfl | exact gvT (andL hc) rfl | exact gvT (andL (andL hc)) rfl | exact gvT (andL (andL (andL hc))) rfl) (by first | exact rfl | exact gvT hc rfl | exact gvT (andL hc) rfl | exact gvT (andL (andL hc)) rfl | exact gvT (andL (andL (andL hc))) rfl) (by first | exact rfl | exact gvT hc rfl | exact gvT (andL hc) rfl | exact gvT (andL (andL hc)) rfl | exact gvT (andL (andL (andL hc))) rfl) (by first | omega | (simp only [Bool.and_eq_true, Bool.not_eq_true', decide_eq_true_eq, decide_eq_false_iff_not, Mk.ne_nilB, Mk.eq_nilB] at hc; omega)) (by first | omega | (simp only [Bool.and_eq_true, Bool.not_eq_true', decide_eq_true_eq, decide_eq_false_iff_not, Mk.ne_nilB, Mk.eq_nilB] at hc; omega)) (by first | omega | (simp only [Bool.and_eq_true, Bool.not_eq_true', decide_eq_true_eq, decide_eq_false_iff_not, Mk.ne_nilB, Mk.eq_nilB] at hc; omega)) | exact y_sliceLHM (by first | exact rfl | exact gvT hc rfl | exact gvT (andL hc) rfl | exact gvT (andL (andL hc)) rfl | exact gvT (andL (andL (andL hc))) rfl) (by first | exact rfl | exact gvT hc rfl | exact gvT (andL hc) rfl | exact gvT (andL (andL hc)) rfl | exact gvT (andL (andL (andL hc))) rfl) (by first | exact rfl | exact gvT hc rfl | exact gvT (andL hc) rfl | exact gvT (andL (andL hc)) rfl | exact gvT (andL (andL (andL hc))) rfl) (by first | exact rfl | exact gvT hc rfl | exact gvT (andL hc) rfl | exact gvT (andL (andL hc)) rfl | exact gvT (andL (andL (andL hc))) rfl) (by first | omega | (simp only [Bool.and_eq_true, Bool.not_eq_true', decide_eq_true_eq, decide_eq_false_iff_not, Mk.ne_nilB, Mk.eq_nilB] at hc; omega)) (by first | omega | (simp only [Bool.and_eq_true, Bool.not_eq_true', decide_eq_true_eq, decide_eq_false_iff_not, Mk.ne_nilB, Mk.eq_nilB] at hc; omega)) (by first | omega | (simp only [Bool.and_eq_true, Bool.not_eq_true', decide_eq_true_eq, decide_eq_false_iff_not, Mk.ne_nilB, Mk.eq_nilB] at hc; omega)) (by first | omega | (simp only [Bool.and_eq_true, Bool.not_eq_true', decide_eq_true_eq, decide_eq_false_iff_not, Mk.ne_nilB, Mk.eq_nilB] at hc; omega)) | exact y_sliceSLH (by first | exact rfl | exact gvT hc rfl | exact gvT (andL hc) rfl | exact gvT (andL (andL hc)) rfl | exact gvT (andL (andL (andL hc))) rfl) (by first | exact rfl | exact gvT hc rfl | exact gvT (andL hc) rfl | exact gvT (andL (andL hc)) rfl | exact gvT (andL (andL (andL hc))) rfl) (by first | exact rfl | exact gvT hc rfl | exact gvT (andL hc) rfl | exact gvT (andL (andL hc)) rfl | exact gvT (andL (andL (andL hc))) rfl) (by first | omega | (simp only [Bool.and_eq_true, Bool.not_eq_true', decide_eq_true_eq, decide_eq_false_iff_not, Mk.ne_nilB, Mk.eq_nilB] at hc; omega)) (by first | omega | (simp only [Bool.and_eq_true, Bool.not_eq_true', decide_eq_true_eq, decide_eq_false_iff_not, Mk.ne_nilB, Mk.eq_nilB] at hc; omega)) (by first | omega | (simp only [Bool.and_eq_true, Bool.not_eq_true', decide_eq_true_eq, decide_eq_false_iff_not, Mk.ne_nilB, Mk.eq_nilB] at hc; omega)) | exact y_sliceSL (by first | exact rfl | exact gvT hc rfl | exact gvT (andL hc) rfl | exact gvT (andL (andL hc)) rfl | exact gvT (andL (andL (andL hc))) rfl) (by first | exact rfl | exact gvT hc rfl | exact gvT (andL hc) rfl | exact gvT (andL (andL hc)) rfl | exact gvT (andL (andL (andL hc))) rfl) (by first | omega | (simp only [Bool.and_eq_true, Bool.not_eq_true', decide_eq_true_eq, decide_eq_false_iff_not, Mk.ne_nilB, Mk.eq_nilB] at hc; omega)) (by first | omega | (simp only [Bool.and_eq_true, Bool.not_eq_true', decide_eq_true_eq, decide_eq_false_iff_not, Mk.ne_nilB, Mk.eq_nilB] at hc; omega)) | exact y_sliceSH (by first | exact rfl | exact gvT hc rfl | exact gvT (andL hc) rfl | exact gvT (andL (andL hc)) rfl | exact gvT (andL (andL (andL hc))) rfl) (by first | exact rfl | exact gvT hc rfl | exact gvT (andL hc) rfl | exact gvT (andL (andL hc)) rfl | exact gvT (andL (andL (andL hc))) rfl) (by first | omega | (simp only [Bool.and_eq_true, Bool.not_eq_true', decide_eq_true_eq, decide_eq_false_iff_not, Mk.ne_nilB, Mk.eq_nilB] at hc; omega)) (by first | omega | (simp only [Bool.and_eq_true, Bool.not_eq_true', decide_eq_true_eq, decide_eq_false_iff_not, Mk.ne_nilB, Mk.eq_nilB] at hc; omega))) | (apply m_conv; exact y_convI (by first | exact rfl | exact gvT hc rfl | exact gvT (andL hc) rfl | exact gvT (andL (andL hc)) rfl | exact gvT (andL (andL (andL hc))) rfl)) | (apply m_neg; exact y_neg64 (by first | exact rfl | exact gvT hc rfl | exact gvT (andL hc) rfl | exact gvT (andL (andL hc)) rfl | exact gvT (andL (andL (andL hc))) rfl) (by first | omega | (simp only [Bool.and_eq_true, Bool.not_eq_true', decide_eq_true_eq, decide_eq_false_iff_not, Mk.ne_nilB, Mk.eq_nilB] at hc; omega)) (by first | omega | (simp only [Bool.and_eq_true, Bool.not_eq_true', decide_eq_true_eq, decide_eq_false_iff_not, Mk.ne_nilB, Mk.eq_nilB] at hc; omega)))))
  repeat (first | refine Q_nil ?_ | (apply Q_plain; first | (apply Q_go; first | refine qP ?_ | refine qPg ?_) | refine qY ?_) | (apply Q_guarded; first | (apply Q_go; first | refine qPG ?_ | refine qPgG ?_) | refine qG ?_))
  intro w hw
  refine W_cond rfl (fun h => ?_) (fun h => ?_)
  · simp only [Bool.and_eq_true, decide_eq_true_eq] at h
    have h0 : 0 < k := by omega
    replace hyk := hyk h0
    replace hy := hy h0
    have hlt := h.2
    clear h
    repeat (first | (first | refine W_seq ?_ | refine W_block ?_ | refine W_region ?_ | refine W_skip ?_ | refine W_ret ?_ | refine W_exit ?_) | (first | refine L_nil ?_ | (apply L_plain; first | (apply L_go; first | refine lP ?_ | (refine lPg ?_; intro w hw)) | (apply L_mf; refine lMakeFunc ?_) | refine lY ?_) | (apply L_guarded; first | refine lGT ?_ | refine lGF ?_ | (apply L_go; refine lPG ?_) | refine lG ?_)))
    refine lAlloc ?_
    intro bt w hw
    refine lStore ?_
    intro w hw
    repeat (first | (first | refine W_seq ?_ | refine W_block ?_ | refine W_region ?_ | refine W_skip ?_ | refine W_ret ?_ | refine W_exit ?_) | (first | refine L_nil ?_ | (apply L_plain; first | (apply L_go; first | refine lP ?_ | (refine lPg ?_; intro w hw)) | (apply L_mf; refine lMakeFunc ?_) | refine lY ?_) | (apply L_guarded; first | refine lGT ?_ | refine lGF ?_ | (apply L_go; refine lPG ?_) | refine lG ?_)))
    refine W_mix1 [] _ [[],[],[],[],[],[],[],[],[],[],[],[],[],[],[0]] [[],[],[],[0],[],[],[],[],[0],[],[],[0],[0],[0],[0]] hw ?_
    repeat (first | refine mY ?_ | refine mP ?_ | refine mEndAt ?_ | refine mEnd0 ?_ | refine mEnd ?_)
    refine mStoreE (k := k) (r := enc y) ?_
    repeat (first | refine mY ?_ | refine mP ?_ | refine mEndAt ?_ | refine mEnd0 ?_ | refine mEnd ?_)
    intro w hw
    have hw := Wd.left (S := Res.blk _ _ :: _) hw
    repeat (first | (first | refine W_seq ?_ | refine W_block ?_ | refine W_region ?_ | refine W_skip ?_ | refine W_ret ?_ | refine W_exit ?_) | (first | refine L_nil ?_ | (apply L_plain; first | (apply L_go; first | refine lP ?_ | (refine lPg ?_; intro w hw)) | (apply L_mf; refine lMakeFunc ?_) | refine lY ?_) | (apply L_guarded; first | refine lGT ?_ | refine lGF ?_ | (apply L_go; refine lPG ?_) | refine lG ?_)))
    refine W_mix1 [] _ [[],[],[],[],[],[],[],[],[0]] [[],[],[],[0],[],[],[0],[0],[0]] hw ?_
    repeat (first | refine mY ?_ | refine mP ?_ | refine mEndAt ?_ | refine mEnd0 ?_ | refine mEnd ?_)
    refine mStoreE (k := ((k : Int) - 1).toNat) (r := enc v) ?_
    repeat (first | refine mY ?_ | refine mP ?_ | refine mEndAt ?_ | refine mEnd0 ?_ | refine mEnd ?_)
    intro w hw
    have hw := Wd.left (S := Res.blk _ _ :: _) hw
    repeat (first | (first | refine W_seq ?_ | refine W_block ?_ | refine W_region ?_ | refine W_skip ?_ | refine W_ret ?_ | refine W_exit ?_) | (first | refine L_nil ?_ | (apply L_plain; first | (apply L_go; first | refine lP ?_ | (refine lPg ?_; intro w hw)) | (apply L_mf; refine lMakeFunc ?_) | refine lY ?_) | (apply L_guarded; first | refine lGT ?_ | refine lGF ?_ | (apply L_go; refine lPG ?_) | refine lG ?_)))
    refine ⟨k - 1, by omega, k - 1, rfl, by omega, ?_, ⟨rfl, rfl, by rw [show ((k - 1 : Nat) : Int) = (k : Int) - 1 from by omega]; rfl, trivial⟩, ?_⟩
    · obtain ⟨hl, hye⟩ := List.getElem?_eq_some_iff.1 hy
      intro x hx
      rw [List.drop_eq_getElem_cons hl, hye, show k - 1 + 1 = k from by omega] at hx
      rcases List.mem_cons.1 hx with rfl | hx
      · exact hlt
      · exact hB x hx
    · have hw := hw.drop
      rw [← List.map_set, ← List.map_set, show ((k : Int) - 1).toNat = k - 1 from by omega, insK_step h0 hy] at hw
      exact hw
  · have hA : k = 0 ∨ ∃ y, ss[k - 1]? = some y ∧ bLt v.Name y.Name = false := by
      rcases Nat.eq_zero_or_pos k with h0 | h0
      · exact .inl h0
      · exact .inr ⟨y, hy h0, by simpa [h0] using h⟩
    have hasc := insK_asc ha hk hB hA
    have hperm := insK_perm (v := v) (ss := ss) (k := k)
    have hsl := insK_len (v := v) (ss := ss) (k := k)
    generalize insK v ss k = cur at hw hasc hperm hsl
    clear hyk hxk hni2 h hA hB hy hρ
    repeat (first | (first | refine W_seq ?_ | refine W_block ?_ | refine W_region ?_ | refine W_skip ?_ | refine W_ret ?_ | refine W_exit ?_) | (first | refine L_nil ?_ | (apply L_plain; first | (apply L_go; first | refine lP ?_ | (refine lPg ?_; intro w hw)) | (apply L_mf; refine lMakeFunc ?_) | refine lY ?_) | (apply L_guarded; first | refine lGT ?_ | refine lGF ?_ | (apply L_go; refine lPG ?_) | refine lG ?_)))
    refine W_loop (fun μ ρ w => ∃ (k : Nat) (g g2 : Value), μ + k = n2 ∧ Has ρ [(0, .pointer (some ⟨b, 0, none⟩)), (3, .pointer (some ⟨bv, 0, none⟩)), (8, g), (9, g2), (10, .int .i64 k)] ∧ Wd Γ (.own g 83 6 ((foundOf v (ws.take k)).map enc) :: .own g2 34 3 (((ws.take k).filter fun x => !decide (x.Name = v.Name)).map enc) :: .own (.slice a2 n2 c2) 34 3 (ws.map enc) :: .blk bv (.cells (enc v).toArray 32) :: .blk b (.cells #[.slice ai ni ci, .slice a2 n2 c2] 29) :: .own (.slice ai ni ci) 32 4 (cur.map enc) :: S) w) n2 ⟨0, .slice none 0 0, .slice none 0 0, by omega, ⟨rfl, rfl, rfl, rfl, rfl, trivial⟩, Wd.addNil (Wd.addNil (hw.ps [1, 1, 3, 3]))⟩ ?_
    clear hw
    rintro μ ρ w ⟨k, g, g2, hk, hρ, hw⟩
    rw [hρ.eq]
    obtain ⟨ag, ng, cg, rfl, hng, -, -⟩ := hw.own_shape (i := 0) rfl
    obtain ⟨ah, nh, ch, rfl, hnh, -, -⟩ := hw.own_shape (i := 1) rfl
    have hl1 := filter_take_le (p := fun x => decide (x.Name = v.Name)) (l := ws) (k := k)
    have hl2 := filter_take_le (p := fun x => !decide (x.Name = v.Name)) (l := ws) (k := k)
    simp only [List.length_map, foundOf] at hng hnh
    repeat (first | (first | refine W_seq ?_ | refine W_block ?_ | refine W_region ?_ | refine W_skip ?_ | refine W_ret ?_ | refine W_exit ?_) | (first | refine L_nil ?_ | (apply L_plain; first | (apply L_go; first | refine lP ?_ | (refine lPg ?_; intro w hw)) | (apply L_mf; refine lMakeFunc ?_) | refine lY ?_) | (apply L_guarded; first | refine lGT ?_ | refine lGF ?_ | (apply L_go; refine lPG ?_) | refine lG ?_)))
    refine W_cond rfl (fun h => ?_) (fun h => ?_)
    · have hkn : k < n2 := by simpa using h
      obtain ⟨x, hx⟩ := get_lt (l := ws) (k := k) (by omega)
      repeat (first | (first | refine W_seq ?_ | refine W_block ?_ | refine W_region ?_ | refine W_skip ?_ | refine W_ret ?_ | refine W_exit ?_) | (first | refine L_nil ?_ | (apply L_plain; first | (apply L_go; first | refine lP ?_ | (refine lPg ?_; intro w hw)) | (apply L_mf; refine lMakeFunc ?_) | refine lY ?_) | (apply L_guarded; first | refine lGT ?_ | refine lGF ?_ | (apply L_go; refine lPG ?_) | refine lG ?_)) | (refine lAlloc ?_; intro _ w hw) | (refine lBox ?_; intro _ w hw) | (refine lStore ?_; intro w hw))
      refine W_cond rfl (fun h2 => ?_) (fun h2 => ?_)
      · repeat (first | (first | refine W_seq ?_ | refine W_block ?_ | refine W_region ?_ | refine W_skip ?_ | refine W_ret ?_ | refine W_exit ?_) | (first | refine L_nil ?_ | (apply L_plain; first | (apply L_go; first | refine lP ?_ | (refine lPg ?_; intro w hw)) | (apply L_mf; refine lMakeFunc ?_) | refine lY ?_) | (apply L_guarded; first | refine lGT ?_ | refine lGF ?_ | (apply L_go; refine lPG ?_) | refine lG ?_)))
        refine lBuildSlice [enc (mkF v x)] ?_
        intro a4 w hw
        have h2 : decide (x.Name = v.Name) = true := by simpa using h2
        refine lApp (i := 2) (rows2 := [enc (mkF v x)]) ?_ (Wd.own_rd (i := 0) hw rfl)
        intro v' w hw
        repeat (first | (first | refine W_seq ?_ | refine W_block ?_ | refine W_region ?_ | refine W_skip ?_ | refine W_ret ?_ | refine W_exit ?_) | (first | refine L_nil ?_ | (apply L_plain; first | (apply L_go; first | refine lP ?_ | (refine lPg ?_; intro w hw)) | (apply L_mf; refine lMakeFunc ?_) | refine lY ?_) | (apply L_guarded; first | refine lGT ?_ | refine lGF ?_ | (apply L_go; refine lPG ?_) | refine lG ?_)))
        refine ⟨μ - 1, by omega, k + 1, v', .slice ah nh ch, by omega, ⟨rfl, rfl, rfl, rfl, rfl, trivial⟩, ?_⟩
        unfold foundOf
        rw [filter_snoc hx, filter_snoc hx, h2]
        simpa [foundOf] using hw.drop.drop
      · have h2 : decide (x.Name = v.Name) = false := by simpa using h2
        repeat (first | (first | refine W_seq ?_ | refine W_block ?_ | refine W_region ?_ | refine W_skip ?_ | refine W_ret ?_ | refine W_exit ?_) | (first | refine L_nil ?_ | (apply L_plain; first | (apply L_go; first | refine lP ?_ | (refine lPg ?_; intro w hw)) | (apply L_mf; refine lMakeFunc ?_) | refine lY ?_) | (apply L_guarded; first | refine lGT ?_ | refine lGF ?_ | (apply L_go; refine lPG ?_) | refine lG ?_)))
        refine lBuildSlice [enc x] ?_
        intro a4 w hw
        refine lApp (i := 3) (rows2 := [enc x]) ?_ (Wd.own_rd (i := 0) hw rfl)
        intro v' w hw
        repeat (first | (first | refine W_seq ?_ | refine W_block ?_ | refine W_region ?_ | refine W_skip ?_ | refine W_ret ?_ | refine W_exit ?_) | (first | refine L_nil ?_ | (apply L_plain; first | (apply L_go; first | refine lP ?_ | (refine lPg ?_; intro w hw)) | (apply L_mf; refine lMakeFunc ?_) | refine lY ?_) | (apply L_guarded; first | refine lGT ?_ | refine lGF ?_ | (apply L_go; refine lPG ?_) | refine lG ?_)))
        refine ⟨μ - 1, by omega, k + 1, .slice ag ng cg, v', by omega, ⟨rfl, rfl, rfl, rfl, rfl, trivial⟩, ?_⟩
        unfold foundOf
        rw [filter_snoc hx, filter_snoc hx, h2]
        simpa [foundOf] using hw.drop.drop
    · have hkn : ¬ k < n2 := by simpa using h
      have hk2 : ws.take k = ws := List.take_of_length_le (by omega)
      rw [hk2] at hw
      repeat (first | (first | refine W_seq ?_ | refine W_block ?_ | refine W_region ?_ | refine W_skip ?_ | refine W_ret ?_ | refine W_exit ?_) | (first | refine L_nil ?_ | (apply L_plain; first | (apply L_go; first | refine lP ?_ | (refine lPg ?_; intro w hw)) | (apply L_mf; refine lMakeFunc ?_) | refine lY ?_) | (apply L_guarded; first | refine lGT ?_ | refine lGF ?_ | (apply L_go; refine lPG ?_) | refine lG ?_)) | (refine lAlloc ?_; intro _ w hw) | (refine lBox ?_; intro _ w hw) | (refine lStore ?_; intro w hw))
      rw [hE]
      refine ⟨_, rfl, .slice ag ng cg, .slice ai ni ci, .slice ah nh ch, cur, rfl, fun h => absurd rfl h, fun _ => ⟨hperm, hasc⟩, ?_⟩
      rw [if_pos rfl, if_pos rfl]
      exact ((hw.ds [2, 2]).ps [3, 3, 2])
end Go.Proofs.YtekdbdhkpolooaaGreat
end
/- The reference's name server: a core waits for a name. -/
section
open Go Mk
namespace Go.Proofs.YtekdbdhkpolooaaGreat
set_option maxHeartbeats 4000000
attribute [local irreducible] Calls

def rawErr (ss : List Service) (ws : List Waiter) (x : Waiter) : Int :=
  if nameS x.Name = false then 63 else if (!coreS x.Core || decide (x.Token ≤ 0)) = true then 1 else if (ws.findIdx? (isW x.Token x.Core)).isSome then 56 else if (rGet ss x.Name).isNone ∧ 64 ≤ ws.length then 15 else 0
def rawW (ss : List Service) (ws : List Waiter) (x : Waiter) : List Waiter := if rawErr ss ws x = 0 ∧ (rGet ss x.Name).isNone then ws ++ [x] else ws
def rawF (ss : List Service) (ws : List Waiter) (x : Waiter) : Bool := decide (rawErr ss ws x = 0) && (rGet ss x.Name).isSome
def rawS (ss : List Service) (ws : List Waiter) (x : Waiter) : Service := if rawErr ss ws x = 0 then (rGet ss x.Name).getD default else default

theorem rAwait_any (Γ : Gho) (S : List Res) (w : World) (b : Nat) (v1 v2 : Value) (ss : List Service) (ws : List Waiter) (x : Waiter) [SB x.Name] (hws : ws.length ≤ 64) (hw : Wd Γ (refL b v1 v2 ss ws ++ S) w) :
    Calls Tryz.prog 26 #[.pointer (some ⟨b, 0, none⟩), .agg (enc x).toArray] w fun e w' => ∃ v2', e = .returned (.tuple #[svcV (rawS ss ws x), .bool (rawF ss ws x), .int .i64 (rawErr ss ws x)]) ∧ Wd Γ (refL b v1 v2' ss (rawW ss ws x) ++ S) w' := by
  unfold refL at hw
  obtain ⟨a, n, c, rfl, hn, hnc, hc⟩ := hw.own_shape (i := 1) rfl
  obtain ⟨a2, n2, c2, rfl, hn2, hnc2, hc2⟩ := hw.own_shape (i := 2) rfl
  simp only [List.length_map] at hn hn2
  refine calls_of_WC Tryz.func26 rfl rfl ?_
  repeat (first | (first | refine W_seq ?_ | refine W_block ?_ | refine W_region ?_ | refine W_skip ?_ | refine W_ret ?_ | refine W_exit ?_) | (first | refine L_nil ?_ | (apply L_plain; first | (apply L_go; first | refine lP ?_ | (refine lPg ?_; intro w hw)) | (apply L_mf; refine lMakeFunc ?_) | refine lY ?_) | (apply L_guarded; first | refine lGT ?_ | refine lGF ?_ | (apply L_go; refine lPG ?_) | refine lG ?_)))
  refine lBox ?_
  intro bx w hw
  refine lAlloc ?_
  intro br w hw
  have fin : ∀ {e : Int} {w} {S' : List Res}, rawErr ss ws x = e → e ≠ 0 → Wd Γ (S' ++ (refL b (.slice a n c) (.slice a2 n2 c2) ss ws ++ S)) w → Wd Γ (refL b (.slice a n c) (.slice a2 n2 c2) ss (rawW ss ws x) ++ S) w ∧ rawF ss ws x = false ∧ rawS ss ws x = default := fun h1 h2 h3 => by
    subst h1
    exact ⟨by rw [show rawW ss ws x = ws from by simp [rawW, h2]]; exact h3.right, by simp [rawF, h2], by simp [rawS, h2]⟩
  repeat (first | (first | refine W_seq ?_ | refine W_block ?_ | refine W_region ?_ | refine W_skip ?_ | refine W_ret ?_ | refine W_exit ?_) | (first | refine L_nil ?_ | (apply L_plain; first | (apply L_go; first | refine lP ?_ | (refine lPg ?_; intro w hw)) | (apply L_mf; refine lMakeFunc ?_) | refine lY ?_) | (apply L_guarded; first | refine lGT ?_ | refine lGF ?_ | (apply L_go; refine lPG ?_) | refine lG ?_)))
  refine W_cond rfl (fun h1 => ?_) (fun h1 => ?_)
  · have hE : rawErr ss ws x = 63 := by simp [rawErr, show nameS x.Name = false from by simpa using h1]
    repeat (first | (first | refine W_seq ?_ | refine W_block ?_ | refine W_region ?_ | refine W_skip ?_ | refine W_ret ?_ | refine W_exit ?_) | (first | refine L_nil ?_ | (apply L_plain; first | (apply L_go; first | refine lP ?_ | (refine lPg ?_; intro w hw)) | (apply L_mf; refine lMakeFunc ?_) | refine lY ?_) | (apply L_guarded; first | refine lGT ?_ | refine lGF ?_ | (apply L_go; refine lPG ?_) | refine lG ?_)) | (refine lAlloc ?_; intro _ w hw) | (refine lBox ?_; intro _ w hw) | (refine lStore ?_; intro w hw))
    obtain ⟨f1, f2, f3⟩ := fin (S' := [_, _]) hE (by decide) hw
    rw [f2, f3, hE]
    exact ⟨[svcV default, .bool false, .int .i64 63], ⟨resC (i := 0) hw rfl rfl rfl, rfl, rfl, trivial⟩, _, rfl, f1⟩
  have h1 : nameS x.Name = true := by simpa using h1
  repeat (first | (first | refine W_seq ?_ | refine W_block ?_ | refine W_region ?_ | refine W_skip ?_ | refine W_ret ?_ | refine W_exit ?_) | (first | refine L_nil ?_ | (apply L_plain; first | (apply L_go; first | refine lP ?_ | (refine lPg ?_; intro w hw)) | (apply L_mf; refine lMakeFunc ?_) | refine lY ?_) | (apply L_guarded; first | refine lGT ?_ | refine lGF ?_ | (apply L_go; refine lPG ?_) | refine lG ?_)))
  refine W_cond rfl (fun h2 => ?_) (fun h2 => ?_)
  · have h2 : (!coreS x.Core || decide (x.Token ≤ 0)) = true := h2
    have hE : rawErr ss ws x = 1 := by simp only [rawErr, h1, h2]; simp
    repeat (first | (first | refine W_seq ?_ | refine W_block ?_ | refine W_region ?_ | refine W_skip ?_ | refine W_ret ?_ | refine W_exit ?_) | (first | refine L_nil ?_ | (apply L_plain; first | (apply L_go; first | refine lP ?_ | (refine lPg ?_; intro w hw)) | (apply L_mf; refine lMakeFunc ?_) | refine lY ?_) | (apply L_guarded; first | refine lGT ?_ | refine lGF ?_ | (apply L_go; refine lPG ?_) | refine lG ?_)) | (refine lAlloc ?_; intro _ w hw) | (refine lBox ?_; intro _ w hw) | (refine lStore ?_; intro w hw))
    obtain ⟨f1, f2, f3⟩ := fin (S' := [_, _]) hE (by decide) hw
    rw [f2, f3, hE]
    exact ⟨[svcV default, .bool false, .int .i64 1], ⟨resC (i := 0) hw rfl rfl rfl, rfl, rfl, trivial⟩, _, rfl, f1⟩
  have h2 : (!coreS x.Core || decide (x.Token ≤ 0)) = false := h2
  repeat (first | (first | refine W_seq ?_ | refine W_block ?_ | refine W_region ?_ | refine W_skip ?_ | refine W_ret ?_ | refine W_exit ?_) | (first | refine L_nil ?_ | (apply L_plain; first | (apply L_go; first | refine lP ?_ | (refine lPg ?_; intro w hw)) | (apply L_mf; refine lMakeFunc ?_) | refine lY ?_) | (apply L_guarded; first | refine lGT ?_ | refine lGF ?_ | (apply L_go; refine lPG ?_) | refine lG ?_)))
  refine lCall ?_
  refine (rWaiter_any Γ ([Res.blk br _, Res.blk bx _] ++ S) w b _ _ ss ws x.Token x.Core (Wd.swapApp (A := [_, _]) hw)).mono ?_
  rintro e w ⟨rfl, hw⟩
  have hw := Wd.swapApp (B := [_, _]) hw
  refine ⟨_, rfl, ?_⟩
  repeat (first | (first | refine W_seq ?_ | refine W_block ?_ | refine W_region ?_ | refine W_skip ?_ | refine W_ret ?_ | refine W_exit ?_) | (first | refine L_nil ?_ | (apply L_plain; first | (apply L_go; first | refine lP ?_ | (refine lPg ?_; intro w hw)) | (apply L_mf; refine lMakeFunc ?_) | refine lY ?_) | (apply L_guarded; first | refine lGT ?_ | refine lGF ?_ | (apply L_go; refine lPG ?_) | refine lG ?_)))
  refine W_cond rfl (fun h3 => ?_) (fun h3 => ?_)
  · rw [ixZ_ge] at h3
    have hE : rawErr ss ws x = 56 := by simp only [rawErr, h1, h2, h3]; simp
    repeat (first | (first | refine W_seq ?_ | refine W_block ?_ | refine W_region ?_ | refine W_skip ?_ | refine W_ret ?_ | refine W_exit ?_) | (first | refine L_nil ?_ | (apply L_plain; first | (apply L_go; first | refine lP ?_ | (refine lPg ?_; intro w hw)) | (apply L_mf; refine lMakeFunc ?_) | refine lY ?_) | (apply L_guarded; first | refine lGT ?_ | refine lGF ?_ | (apply L_go; refine lPG ?_) | refine lG ?_)) | (refine lAlloc ?_; intro _ w hw) | (refine lBox ?_; intro _ w hw) | (refine lStore ?_; intro w hw))
    obtain ⟨f1, f2, f3⟩ := fin (S' := [_, _]) hE (by decide) hw
    rw [f2, f3, hE]
    exact ⟨[svcV default, .bool false, .int .i64 56], ⟨resC (i := 0) hw rfl rfl rfl, rfl, rfl, trivial⟩, _, rfl, f1⟩
  rw [ixZ_ge] at h3
  repeat (first | (first | refine W_seq ?_ | refine W_block ?_ | refine W_region ?_ | refine W_skip ?_ | refine W_ret ?_ | refine W_exit ?_) | (first | refine L_nil ?_ | (apply L_plain; first | (apply L_go; first | refine lP ?_ | (refine lPg ?_; intro w hw)) | (apply L_mf; refine lMakeFunc ?_) | refine lY ?_) | (apply L_guarded; first | refine lGT ?_ | refine lGF ?_ | (apply L_go; refine lPG ?_) | refine lG ?_)))
  refine lCall ?_
  refine (rAt_any Γ ([Res.blk br _, Res.blk bx _] ++ S) w b _ _ ss ws x.Name (Wd.swapApp (A := [_, _]) hw)).mono ?_
  rintro e w ⟨rfl, hw⟩
  have hw := Wd.swapApp (B := [_, _]) hw
  refine ⟨_, rfl, ?_⟩
  unfold refL at hw
  cases hf : ss.findIdx? (isN x.Name) with
  | some k =>
    have hk := findIdx_lt hf
    obtain ⟨y, hy⟩ := get_lt (l := ss) (k := k) (by omega)
    have hg : rGet ss x.Name = some y := by simp [rGet, hf, hy]
    have hE : rawErr ss ws x = 0 := by simp only [rawErr, h1, h2, h3, hg]; simp
    have hz : ixZ (some k) = (k : Int) := rfl
    clear fin
    repeat (first | (first | refine W_seq ?_ | refine W_block ?_ | refine W_region ?_ | refine W_skip ?_ | refine W_ret ?_ | refine W_exit ?_) | (first | refine L_nil ?_ | (apply L_plain; first | (apply L_go; first | refine lP ?_ | (refine lPg ?_; intro w hw)) | (apply L_mf; refine lMakeFunc ?_) | refine lY ?_) | (apply L_guarded; first | refine lGT ?_ | refine lGF ?_ | (apply L_go; refine lPG ?_) | refine lG ?_)))
    refine W_cond rfl (fun _ => ?_) (fun h => absurd h (by simp [hz]))
    repeat (first | (first | refine W_seq ?_ | refine W_block ?_ | refine W_region ?_ | refine W_skip ?_ | refine W_ret ?_ | refine W_exit ?_) | (first | refine L_nil ?_ | (apply L_plain; first | (apply L_go; first | refine lP ?_ | (refine lPg ?_; intro w hw)) | (apply L_mf; refine lMakeFunc ?_) | refine lY ?_) | (apply L_guarded; first | refine lGT ?_ | refine lGF ?_ | (apply L_go; refine lPG ?_) | refine lG ?_)) | (refine lAlloc ?_; intro _ w hw) | (refine lBox ?_; intro _ w hw) | (refine lStore ?_; intro w hw))
    refine ⟨[svcV y, .bool true, .int .i64 0], ⟨resC (i := 0) hw rfl rfl rfl, rfl, rfl, trivial⟩, .slice a2 n2 c2, ?_, ?_⟩
    · rw [show rawS ss ws x = y from by simp [rawS, hE, hg], show rawF ss ws x = true from by simp [rawF, hE, hg], hE]; rfl
    · rw [show rawW ss ws x = ws from by simp [rawW, hg]]
      exact hw.drop.drop
  | none =>
    have hg : rGet ss x.Name = none := by simp [rGet, hf]
    repeat (first | (first | refine W_seq ?_ | refine W_block ?_ | refine W_region ?_ | refine W_skip ?_ | refine W_ret ?_ | refine W_exit ?_) | (first | refine L_nil ?_ | (apply L_plain; first | (apply L_go; first | refine lP ?_ | (refine lPg ?_; intro w hw)) | (apply L_mf; refine lMakeFunc ?_) | refine lY ?_) | (apply L_guarded; first | refine lGT ?_ | refine lGF ?_ | (apply L_go; refine lPG ?_) | refine lG ?_)))
    refine W_cond rfl (fun h => absurd h (by simp [ixZ])) (fun _ => ?_)
    repeat (first | (first | refine W_seq ?_ | refine W_block ?_ | refine W_region ?_ | refine W_skip ?_ | refine W_ret ?_ | refine W_exit ?_) | (first | refine L_nil ?_ | (apply L_plain; first | (apply L_go; first | refine lP ?_ | (refine lPg ?_; intro w hw)) | (apply L_mf; refine lMakeFunc ?_) | refine lY ?_) | (apply L_guarded; first | refine lGT ?_ | refine lGF ?_ | (apply L_go; refine lPG ?_) | refine lG ?_)))
    refine W_cond rfl (fun h4 => ?_) (fun h4 => ?_)
    · have h4 : 64 ≤ ws.length := by have := of_decide_eq_true h4; omega
      have hE : rawErr ss ws x = 15 := by simp only [rawErr, h1, h2, h3, hg]; simp [h4]
      repeat (first | (first | refine W_seq ?_ | refine W_block ?_ | refine W_region ?_ | refine W_skip ?_ | refine W_ret ?_ | refine W_exit ?_) | (first | refine L_nil ?_ | (apply L_plain; first | (apply L_go; first | refine lP ?_ | (refine lPg ?_; intro w hw)) | (apply L_mf; refine lMakeFunc ?_) | refine lY ?_) | (apply L_guarded; first | refine lGT ?_ | refine lGF ?_ | (apply L_go; refine lPG ?_) | refine lG ?_)) | (refine lAlloc ?_; intro _ w hw) | (refine lBox ?_; intro _ w hw) | (refine lStore ?_; intro w hw))
      obtain ⟨f1, f2, f3⟩ := fin (S' := [_, _]) hE (by decide) hw
      rw [f2, f3, hE]
      exact ⟨[svcV default, .bool false, .int .i64 15], ⟨resC (i := 0) hw rfl rfl rfl, rfl, rfl, trivial⟩, _, rfl, f1⟩
    have h4 : ¬ 64 ≤ ws.length := by have := of_decide_eq_false h4; omega
    have hE : rawErr ss ws x = 0 := by simp only [rawErr, h1, h2, h3, hg]; simp; omega
    clear fin
    repeat (first | (first | refine W_seq ?_ | refine W_block ?_ | refine W_region ?_ | refine W_skip ?_ | refine W_ret ?_ | refine W_exit ?_) | (first | refine L_nil ?_ | (apply L_plain; first | (apply L_go; first | refine lP ?_ | (refine lPg ?_; intro w hw)) | (apply L_mf; refine lMakeFunc ?_) | refine lY ?_) | (apply L_guarded; first | refine lGT ?_ | refine lGF ?_ | (apply L_go; refine lPG ?_) | refine lG ?_)))
    refine W_mix2 [_, _, _] _ [[],[],[],[],[],[],[1],[0],[],[],[0]] [[],[],[],[],[0],[],[1],[0,1],[],[],[0]] [[61], [60]] (hw.ps [3, 2, 2]) ?_
    repeat (first | refine mY ?_ | refine mP ?_ | refine mEndAt ?_ | refine mEnd0 ?_ | refine mEnd ?_)
    refine mBuild [enc x] ?_
    refine mApp ?_
    repeat (first | refine mY ?_ | refine mP ?_ | refine mEndAt ?_ | refine mEnd0 ?_ | refine mEnd ?_)
    refine mStoreV ?_
    refine mEnd fun w g hw => ?_
    have hw : Wd Γ (Res.blk br _ :: Res.blk bx _ :: .blk b (.cells #[.slice a n c, g 61] 29) :: .own (.slice a n c) 32 4 (ss.map enc) :: .own (g 61) 34 3 (ws.map enc ++ [enc x]) :: S) w := (Wd.dropEnd hw).ps [2, 3, 3, 3]
    rw [show ws.map enc ++ [enc x] = (ws ++ [x]).map enc from by simp] at hw
    generalize g 61 = vs' at hw
    repeat (first | (first | refine W_seq ?_ | refine W_block ?_ | refine W_region ?_ | refine W_skip ?_ | refine W_ret ?_ | refine W_exit ?_) | (first | refine L_nil ?_ | (apply L_plain; first | (apply L_go; first | refine lP ?_ | (refine lPg ?_; intro w hw)) | (apply L_mf; refine lMakeFunc ?_) | refine lY ?_) | (apply L_guarded; first | refine lGT ?_ | refine lGF ?_ | (apply L_go; refine lPG ?_) | refine lG ?_)) | (refine lAlloc ?_; intro _ w hw) | (refine lBox ?_; intro _ w hw) | (refine lStore ?_; intro w hw))
    refine ⟨[svcV default, .bool false, .int .i64 0], ⟨resC (i := 0) hw rfl rfl rfl, rfl, rfl, trivial⟩, vs', ?_, ?_⟩
    · rw [show rawS ss ws x = default from by simp [rawS, hg], show rawF ss ws x = false from by simp [rawF, hg], hE]; rfl
    · rw [show rawW ss ws x = ws ++ [x] from by simp [rawW, hE, hg]]
      exact hw.drop.drop
end Go.Proofs.YtekdbdhkpolooaaGreat
end
/- Two lists alike. (printed by gen_same.py) -/
section
open Go Mk
namespace Go.Proofs.YtekdbdhkpolooaaGreat
set_option maxHeartbeats 2000000
attribute [local irreducible] Calls

theorem SameServices_own (Γ : Gho) (S : List Res) (w : World) (va vb : Value) (xs ys : List Service) (hw : Wd Γ (.own va 32 4 (xs.map enc) :: .own vb 32 4 (ys.map enc) :: S) w) :
    Calls Tryz.prog 6 #[va, vb] w fun e w' => e = .returned (.bool (decide (xs = ys))) ∧ Wd Γ (.own va 32 4 (xs.map enc) :: .own vb 32 4 (ys.map enc) :: S) w' := by
  obtain ⟨a, n, c, rfl, hn, hnc, hc⟩ := hw.own_shape (i := 0) rfl
  obtain ⟨b, m, c', rfl, hm, hmc, hc'⟩ := hw.own_shape (i := 1) rfl
  simp only [List.length_map] at hn hm
  refine calls_of_W Tryz.func6 rfl rfl ?_
  repeat (first | (first | refine W_seq ?_ | refine W_block ?_ | refine W_region ?_ | refine W_skip ?_ | refine W_ret ?_ | refine W_exit ?_) | (first | refine L_nil ?_ | (apply L_plain; first | (apply L_go; first | refine lP ?_ | (refine lPg ?_; intro w hw)) | (apply L_mf; refine lMakeFunc ?_) | refine lY ?_) | (apply L_guarded; first | refine lGT ?_ | refine lGF ?_ | (apply L_go; refine lPG ?_) | refine lG ?_)))
  refine W_cond rfl (fun h => ?_) (fun h => ?_)
  · repeat (first | (first | refine W_seq ?_ | refine W_block ?_ | refine W_region ?_ | refine W_skip ?_ | refine W_ret ?_ | refine W_exit ?_) | (first | refine L_nil ?_ | (apply L_plain; first | (apply L_go; first | refine lP ?_ | (refine lPg ?_; intro w hw)) | (apply L_mf; refine lMakeFunc ?_) | refine lY ?_) | (apply L_guarded; first | refine lGT ?_ | refine lGF ?_ | (apply L_go; refine lPG ?_) | refine lG ?_)))
    refine ⟨_, rfl, ret_b rfl ?_, hw⟩
    have : xs ≠ ys := fun e => by subst e; simp at h; omega
    simp [this]
  · repeat (first | (first | refine W_seq ?_ | refine W_block ?_ | refine W_region ?_ | refine W_skip ?_ | refine W_ret ?_ | refine W_exit ?_) | (first | refine L_nil ?_ | (apply L_plain; first | (apply L_go; first | refine lP ?_ | (refine lPg ?_; intro w hw)) | (apply L_mf; refine lMakeFunc ?_) | refine lY ?_) | (apply L_guarded; first | refine lGT ?_ | refine lGF ?_ | (apply L_go; refine lPG ?_) | refine lG ?_)))
    have hnm : n = m := by simp at h; omega
    refine W_loop (fun μ ρ w => ∃ k : Nat, μ + k = n ∧ Has ρ [(0, .slice a n c), (1, .slice b m c'), (5, .int .i64 k)] ∧ Wd Γ (.own (.slice a n c) 32 4 (xs.map enc) :: .own (.slice b m c') 32 4 (ys.map enc) :: S) w ∧ ∀ i, i < k → xs[i]? = ys[i]?) n ⟨0, rfl, ⟨rfl, rfl, rfl, trivial⟩, hw, fun i h => absurd h (Nat.not_lt_zero i)⟩ ?_
    rintro μ ρ w ⟨k, hk, hρ, hw, hi⟩
    rw [hρ.eq]
    repeat (first | (first | refine W_seq ?_ | refine W_block ?_ | refine W_region ?_ | refine W_skip ?_ | refine W_ret ?_ | refine W_exit ?_) | (first | refine L_nil ?_ | (apply L_plain; first | (apply L_go; first | refine lP ?_ | (refine lPg ?_; intro w hw)) | (apply L_mf; refine lMakeFunc ?_) | refine lY ?_) | (apply L_guarded; first | refine lGT ?_ | refine lGF ?_ | (apply L_go; refine lPG ?_) | refine lG ?_)))
    refine W_cond rfl (fun h => ?_) (fun h => ?_)
    · have hkn : k < n := by simpa using h
      obtain ⟨x, hx⟩ := get_lt (l := xs) (k := k) (by omega)
      obtain ⟨y, hy⟩ := get_lt (l := ys) (k := k) (by omega)
      repeat (first | (first | refine W_seq ?_ | refine W_block ?_ | refine W_region ?_ | refine W_skip ?_ | refine W_ret ?_ | refine W_exit ?_) | (first | refine L_nil ?_ | (apply L_plain; first | (apply L_go; first | refine lP ?_ | (refine lPg ?_; intro w hw)) | (apply L_mf; refine lMakeFunc ?_) | refine lY ?_) | (apply L_guarded; first | refine lGT ?_ | refine lGF ?_ | (apply L_go; refine lPG ?_) | refine lG ?_)))
      refine W_quiet (by kernel_rfl) (by kernel_rfl) hw ?_
      repeat (first | refine Q_nil ?_ | (apply Q_plain; first | (apply Q_go; first | refine qP ?_ | refine qPg ?_) | refine qY ?_) | (apply Q_guarded; first | (apply Q_go; first | refine qPG ?_ | refine qPgG ?_) | refine qG ?_))
      intro w hw
      refine W_cond rfl (fun h2 => ?_) (fun h2 => ?_)
      · repeat (first | (first | refine W_seq ?_ | refine W_block ?_ | refine W_region ?_ | refine W_skip ?_ | refine W_ret ?_ | refine W_exit ?_) | (first | refine L_nil ?_ | (apply L_plain; first | (apply L_go; first | refine lP ?_ | (refine lPg ?_; intro w hw)) | (apply L_mf; refine lMakeFunc ?_) | refine lY ?_) | (apply L_guarded; first | refine lGT ?_ | refine lGF ?_ | (apply L_go; refine lPG ?_) | refine lG ?_)))
        refine ⟨_, rfl, ret_b rfl ?_, hw⟩
        have : xs ≠ ys := fun e => by subst e; rw [hx] at hy; cases hy; simp at h2
        simp [this]
      · repeat (first | (first | refine W_seq ?_ | refine W_block ?_ | refine W_region ?_ | refine W_skip ?_ | refine W_ret ?_ | refine W_exit ?_) | (first | refine L_nil ?_ | (apply L_plain; first | (apply L_go; first | refine lP ?_ | (refine lPg ?_; intro w hw)) | (apply L_mf; refine lMakeFunc ?_) | refine lY ?_) | (apply L_guarded; first | refine lGT ?_ | refine lGF ?_ | (apply L_go; refine lPG ?_) | refine lG ?_)))
        refine ⟨μ - 1, by omega, k + 1, by omega, ⟨rfl, rfl, rfl, trivial⟩, hw, fun i hi' => ?_⟩
        by_cases e : i = k
        · subst e; rw [hx, hy]; simpa using h2
        · exact hi i (by omega)
    · repeat (first | (first | refine W_seq ?_ | refine W_block ?_ | refine W_region ?_ | refine W_skip ?_ | refine W_ret ?_ | refine W_exit ?_) | (first | refine L_nil ?_ | (apply L_plain; first | (apply L_go; first | refine lP ?_ | (refine lPg ?_; intro w hw)) | (apply L_mf; refine lMakeFunc ?_) | refine lY ?_) | (apply L_guarded; first | refine lGT ?_ | refine lGF ?_ | (apply L_go; refine lPG ?_) | refine lG ?_)))
      refine ⟨_, rfl, ret_b rfl ?_, hw⟩
      have : xs = ys := List.ext_getElem? fun i => by
        by_cases e : i < k
        · exact hi i e
        · have : ¬ k < n := by simpa using h
          rw [List.getElem?_eq_none (by omega), List.getElem?_eq_none (by omega)]
      simp [this]

theorem SameWaiters_own (Γ : Gho) (S : List Res) (w : World) (va vb : Value) (xs ys : List Waiter) (hw : Wd Γ (.own va 34 3 (xs.map enc) :: .own vb 34 3 (ys.map enc) :: S) w) :
    Calls Tryz.prog 9 #[va, vb] w fun e w' => e = .returned (.bool (decide (xs = ys))) ∧ Wd Γ (.own va 34 3 (xs.map enc) :: .own vb 34 3 (ys.map enc) :: S) w' := by
  obtain ⟨a, n, c, rfl, hn, hnc, hc⟩ := hw.own_shape (i := 0) rfl
  obtain ⟨b, m, c', rfl, hm, hmc, hc'⟩ := hw.own_shape (i := 1) rfl
  simp only [List.length_map] at hn hm
  refine calls_of_W Tryz.func9 rfl rfl ?_
  repeat (first | (first | refine W_seq ?_ | refine W_block ?_ | refine W_region ?_ | refine W_skip ?_ | refine W_ret ?_ | refine W_exit ?_) | (first | refine L_nil ?_ | (apply L_plain; first | (apply L_go; first | refine lP ?_ | (refine lPg ?_; intro w hw)) | (apply L_mf; refine lMakeFunc ?_) | refine lY ?_) | (apply L_guarded; first | refine lGT ?_ | refine lGF ?_ | (apply L_go; refine lPG ?_) | refine lG ?_)))
  refine W_cond rfl (fun h => ?_) (fun h => ?_)
  · repeat (first | (first | refine W_seq ?_ | refine W_block ?_ | refine W_region ?_ | refine W_skip ?_ | refine W_ret ?_ | refine W_exit ?_) | (first | refine L_nil ?_ | (apply L_plain; first | (apply L_go; first | refine lP ?_ | (refine lPg ?_; intro w hw)) | (apply L_mf; refine lMakeFunc ?_) | refine lY ?_) | (apply L_guarded; first | refine lGT ?_ | refine lGF ?_ | (apply L_go; refine lPG ?_) | refine lG ?_)))
    refine ⟨_, rfl, ret_b rfl ?_, hw⟩
    have : xs ≠ ys := fun e => by subst e; simp at h; omega
    simp [this]
  · repeat (first | (first | refine W_seq ?_ | refine W_block ?_ | refine W_region ?_ | refine W_skip ?_ | refine W_ret ?_ | refine W_exit ?_) | (first | refine L_nil ?_ | (apply L_plain; first | (apply L_go; first | refine lP ?_ | (refine lPg ?_; intro w hw)) | (apply L_mf; refine lMakeFunc ?_) | refine lY ?_) | (apply L_guarded; first | refine lGT ?_ | refine lGF ?_ | (apply L_go; refine lPG ?_) | refine lG ?_)))
    have hnm : n = m := by simp at h; omega
    refine W_loop (fun μ ρ w => ∃ k : Nat, μ + k = n ∧ Has ρ [(0, .slice a n c), (1, .slice b m c'), (5, .int .i64 k)] ∧ Wd Γ (.own (.slice a n c) 34 3 (xs.map enc) :: .own (.slice b m c') 34 3 (ys.map enc) :: S) w ∧ ∀ i, i < k → xs[i]? = ys[i]?) n ⟨0, rfl, ⟨rfl, rfl, rfl, trivial⟩, hw, fun i h => absurd h (Nat.not_lt_zero i)⟩ ?_
    rintro μ ρ w ⟨k, hk, hρ, hw, hi⟩
    rw [hρ.eq]
    repeat (first | (first | refine W_seq ?_ | refine W_block ?_ | refine W_region ?_ | refine W_skip ?_ | refine W_ret ?_ | refine W_exit ?_) | (first | refine L_nil ?_ | (apply L_plain; first | (apply L_go; first | refine lP ?_ | (refine lPg ?_; intro w hw)) | (apply L_mf; refine lMakeFunc ?_) | refine lY ?_) | (apply L_guarded; first | refine lGT ?_ | refine lGF ?_ | (apply L_go; refine lPG ?_) | refine lG ?_)))
    refine W_cond rfl (fun h => ?_) (fun h => ?_)
    · have hkn : k < n := by simpa using h
      obtain ⟨x, hx⟩ := get_lt (l := xs) (k := k) (by omega)
      obtain ⟨y, hy⟩ := get_lt (l := ys) (k := k) (by omega)
      repeat (first | (first | refine W_seq ?_ | refine W_block ?_ | refine W_region ?_ | refine W_skip ?_ | refine W_ret ?_ | refine W_exit ?_) | (first | refine L_nil ?_ | (apply L_plain; first | (apply L_go; first | refine lP ?_ | (refine lPg ?_; intro w hw)) | (apply L_mf; refine lMakeFunc ?_) | refine lY ?_) | (apply L_guarded; first | refine lGT ?_ | refine lGF ?_ | (apply L_go; refine lPG ?_) | refine lG ?_)))
      refine W_quiet (by kernel_rfl) (by kernel_rfl) hw ?_
      repeat (first | refine Q_nil ?_ | (apply Q_plain; first | (apply Q_go; first | refine qP ?_ | refine qPg ?_) | refine qY ?_) | (apply Q_guarded; first | (apply Q_go; first | refine qPG ?_ | refine qPgG ?_) | refine qG ?_))
      intro w hw
      refine W_cond rfl (fun h2 => ?_) (fun h2 => ?_)
      · repeat (first | (first | refine W_seq ?_ | refine W_block ?_ | refine W_region ?_ | refine W_skip ?_ | refine W_ret ?_ | refine W_exit ?_) | (first | refine L_nil ?_ | (apply L_plain; first | (apply L_go; first | refine lP ?_ | (refine lPg ?_; intro w hw)) | (apply L_mf; refine lMakeFunc ?_) | refine lY ?_) | (apply L_guarded; first | refine lGT ?_ | refine lGF ?_ | (apply L_go; refine lPG ?_) | refine lG ?_)))
        refine ⟨_, rfl, ret_b rfl ?_, hw⟩
        have : xs ≠ ys := fun e => by subst e; rw [hx] at hy; cases hy; simp at h2
        simp [this]
      · repeat (first | (first | refine W_seq ?_ | refine W_block ?_ | refine W_region ?_ | refine W_skip ?_ | refine W_ret ?_ | refine W_exit ?_) | (first | refine L_nil ?_ | (apply L_plain; first | (apply L_go; first | refine lP ?_ | (refine lPg ?_; intro w hw)) | (apply L_mf; refine lMakeFunc ?_) | refine lY ?_) | (apply L_guarded; first | refine lGT ?_ | refine lGF ?_ | (apply L_go; refine lPG ?_) | refine lG ?_)))
        refine ⟨μ - 1, by omega, k + 1, by omega, ⟨rfl, rfl, rfl, trivial⟩, hw, fun i hi' => ?_⟩
        by_cases e : i = k
        · subst e; rw [hx, hy]; simpa using h2
        · exact hi i (by omega)
    · repeat (first | (first | refine W_seq ?_ | refine W_block ?_ | refine W_region ?_ | refine W_skip ?_ | refine W_ret ?_ | refine W_exit ?_) | (first | refine L_nil ?_ | (apply L_plain; first | (apply L_go; first | refine lP ?_ | (refine lPg ?_; intro w hw)) | (apply L_mf; refine lMakeFunc ?_) | refine lY ?_) | (apply L_guarded; first | refine lGT ?_ | refine lGF ?_ | (apply L_go; refine lPG ?_) | refine lG ?_)))
      refine ⟨_, rfl, ret_b rfl ?_, hw⟩
      have : xs = ys := List.ext_getElem? fun i => by
        by_cases e : i < k
        · exact hi i e
        · have : ¬ k < n := by simpa using h
          rw [List.getElem?_eq_none (by omega), List.getElem?_eq_none (by omega)]
      simp [this]

theorem SameFound_own (Γ : Gho) (S : List Res) (w : World) (va vb : Value) (xs ys : List Found) (hw : Wd Γ (.own va 83 6 (xs.map enc) :: .own vb 83 6 (ys.map enc) :: S) w) :
    Calls Tryz.prog 20 #[va, vb] w fun e w' => e = .returned (.bool (decide (xs = ys))) ∧ Wd Γ (.own va 83 6 (xs.map enc) :: .own vb 83 6 (ys.map enc) :: S) w' := by
  obtain ⟨a, n, c, rfl, hn, hnc, hc⟩ := hw.own_shape (i := 0) rfl
  obtain ⟨b, m, c', rfl, hm, hmc, hc'⟩ := hw.own_shape (i := 1) rfl
  simp only [List.length_map] at hn hm
  refine calls_of_W Tryz.func20 rfl rfl ?_
  repeat (first | (first | refine W_seq ?_ | refine W_block ?_ | refine W_region ?_ | refine W_skip ?_ | refine W_ret ?_ | refine W_exit ?_) | (first | refine L_nil ?_ | (apply L_plain; first | (apply L_go; first | refine lP ?_ | (refine lPg ?_; intro w hw)) | (apply L_mf; refine lMakeFunc ?_) | refine lY ?_) | (apply L_guarded; first | refine lGT ?_ | refine lGF ?_ | (apply L_go; refine lPG ?_) | refine lG ?_)))
  refine W_cond rfl (fun h => ?_) (fun h => ?_)
  · repeat (first | (first | refine W_seq ?_ | refine W_block ?_ | refine W_region ?_ | refine W_skip ?_ | refine W_ret ?_ | refine W_exit ?_) | (first | refine L_nil ?_ | (apply L_plain; first | (apply L_go; first | refine lP ?_ | (refine lPg ?_; intro w hw)) | (apply L_mf; refine lMakeFunc ?_) | refine lY ?_) | (apply L_guarded; first | refine lGT ?_ | refine lGF ?_ | (apply L_go; refine lPG ?_) | refine lG ?_)))
    refine ⟨_, rfl, ret_b rfl ?_, hw⟩
    have : xs ≠ ys := fun e => by subst e; simp at h; omega
    simp [this]
  · repeat (first | (first | refine W_seq ?_ | refine W_block ?_ | refine W_region ?_ | refine W_skip ?_ | refine W_ret ?_ | refine W_exit ?_) | (first | refine L_nil ?_ | (apply L_plain; first | (apply L_go; first | refine lP ?_ | (refine lPg ?_; intro w hw)) | (apply L_mf; refine lMakeFunc ?_) | refine lY ?_) | (apply L_guarded; first | refine lGT ?_ | refine lGF ?_ | (apply L_go; refine lPG ?_) | refine lG ?_)))
    have hnm : n = m := by simp at h; omega
    refine W_loop (fun μ ρ w => ∃ k : Nat, μ + k = n ∧ Has ρ [(0, .slice a n c), (1, .slice b m c'), (5, .int .i64 k)] ∧ Wd Γ (.own (.slice a n c) 83 6 (xs.map enc) :: .own (.slice b m c') 83 6 (ys.map enc) :: S) w ∧ ∀ i, i < k → xs[i]? = ys[i]?) n ⟨0, rfl, ⟨rfl, rfl, rfl, trivial⟩, hw, fun i h => absurd h (Nat.not_lt_zero i)⟩ ?_
    rintro μ ρ w ⟨k, hk, hρ, hw, hi⟩
    rw [hρ.eq]
    repeat (first | (first | refine W_seq ?_ | refine W_block ?_ | refine W_region ?_ | refine W_skip ?_ | refine W_ret ?_ | refine W_exit ?_) | (first | refine L_nil ?_ | (apply L_plain; first | (apply L_go; first | refine lP ?_ | (refine lPg ?_; intro w hw)) | (apply L_mf; refine lMakeFunc ?_) | refine lY ?_) | (apply L_guarded; first | refine lGT ?_ | refine lGF ?_ | (apply L_go; refine lPG ?_) | refine lG ?_)))
    refine W_cond rfl (fun h => ?_) (fun h => ?_)
    · have hkn : k < n := by simpa using h
      obtain ⟨x, hx⟩ := get_lt (l := xs) (k := k) (by omega)
      obtain ⟨y, hy⟩ := get_lt (l := ys) (k := k) (by omega)
      repeat (first | (first | refine W_seq ?_ | refine W_block ?_ | refine W_region ?_ | refine W_skip ?_ | refine W_ret ?_ | refine W_exit ?_) | (first | refine L_nil ?_ | (apply L_plain; first | (apply L_go; first | refine lP ?_ | (refine lPg ?_; intro w hw)) | (apply L_mf; refine lMakeFunc ?_) | refine lY ?_) | (apply L_guarded; first | refine lGT ?_ | refine lGF ?_ | (apply L_go; refine lPG ?_) | refine lG ?_)))
      refine W_quiet (by kernel_rfl) (by kernel_rfl) hw ?_
      repeat (first | refine Q_nil ?_ | (apply Q_plain; first | (apply Q_go; first | refine qP ?_ | refine qPg ?_) | refine qY ?_) | (apply Q_guarded; first | (apply Q_go; first | refine qPG ?_ | refine qPgG ?_) | refine qG ?_))
      intro w hw
      refine W_cond rfl (fun h2 => ?_) (fun h2 => ?_)
      · repeat (first | (first | refine W_seq ?_ | refine W_block ?_ | refine W_region ?_ | refine W_skip ?_ | refine W_ret ?_ | refine W_exit ?_) | (first | refine L_nil ?_ | (apply L_plain; first | (apply L_go; first | refine lP ?_ | (refine lPg ?_; intro w hw)) | (apply L_mf; refine lMakeFunc ?_) | refine lY ?_) | (apply L_guarded; first | refine lGT ?_ | refine lGF ?_ | (apply L_go; refine lPG ?_) | refine lG ?_)))
        refine ⟨_, rfl, ret_b rfl ?_, hw⟩
        have : xs ≠ ys := fun e => by subst e; rw [hx] at hy; cases hy; simp at h2
        simp [this]
      · repeat (first | (first | refine W_seq ?_ | refine W_block ?_ | refine W_region ?_ | refine W_skip ?_ | refine W_ret ?_ | refine W_exit ?_) | (first | refine L_nil ?_ | (apply L_plain; first | (apply L_go; first | refine lP ?_ | (refine lPg ?_; intro w hw)) | (apply L_mf; refine lMakeFunc ?_) | refine lY ?_) | (apply L_guarded; first | refine lGT ?_ | refine lGF ?_ | (apply L_go; refine lPG ?_) | refine lG ?_)))
        refine ⟨μ - 1, by omega, k + 1, by omega, ⟨rfl, rfl, rfl, trivial⟩, hw, fun i hi' => ?_⟩
        by_cases e : i = k
        · subst e; rw [hx, hy]; simpa using h2
        · exact hi i (by omega)
    · repeat (first | (first | refine W_seq ?_ | refine W_block ?_ | refine W_region ?_ | refine W_skip ?_ | refine W_ret ?_ | refine W_exit ?_) | (first | refine L_nil ?_ | (apply L_plain; first | (apply L_go; first | refine lP ?_ | (refine lPg ?_; intro w hw)) | (apply L_mf; refine lMakeFunc ?_) | refine lY ?_) | (apply L_guarded; first | refine lGT ?_ | refine lGF ?_ | (apply L_go; refine lPG ?_) | refine lG ?_)))
      refine ⟨_, rfl, ret_b rfl ?_, hw⟩
      have : xs = ys := List.ext_getElem? fun i => by
        by_cases e : i < k
        · exact hi i e
        · have : ¬ k < n := by simpa using h
          rw [List.getElem?_eq_none (by omega), List.getElem?_eq_none (by omega)]
      simp [this]
end Go.Proofs.YtekdbdhkpolooaaGreat
end
/- Steps of the laws: their names, services and waiters. -/
section
open Go
namespace Mk
theorem y_indexA {P : Program} {d : Option Tmp} {T ty : TypeId} {x y : Operand} {pos : String} {es : Array Edge} {g : Option (Nat × Bool)} {ρ : Fr} {w : World} {n E : Nat} {cs : Array Value} {i : Int} {k : IntKind} {v : Value} [hT : TArr P T n E 1] [hE : TS P E] (hx : ev ρ x = .agg cs) (hy : ev ρ y = .int k i) (h0 : 0 ≤ i) (h1 : i < n) (hv : cs[i.toNat]? = some v) : Yields P ⟨d, .index T x y, ty, pos, es, g⟩ ρ w v := by
  have hT1 := hT.h
  have hT2 := hT.s
  have hE := hE.h
  unfold Yields; simp [execOp, go_sem, hx, hy, h0, h1, hT1, Instr.index, part, run_underlying hT1, scal_isAgg hE, scal_size hE, hv]
end Mk
open Mk
namespace Go.Proofs.YtekdbdhkpolooaaGreat
set_option maxHeartbeats 4000000
attribute [local irreducible] Calls

structure Step where
  What : Int
  Name : Int
  Core : Int
  V : Int
  Raw : Bool
  S : Service
  W : Waiter
instance : GoT Step where
  enc a := [.int .i64 a.What, .int .i64 a.Name, .int .i64 a.Core, .int .i64 a.V, .bool a.Raw, .string a.S.Name, .int .i64 a.S.Core, .int .i64 a.S.Object, .int .i64 a.S.Kind, .int .i64 a.W.Token, .int .i64 a.W.Core, .string a.W.Name]
  inj a b h := by
    obtain ⟨_, _, _, _, _, ⟨_, _, _, _⟩, ⟨_, _, _⟩⟩ := a
    obtain ⟨_, _, _, _, _, ⟨_, _, _, _⟩, ⟨_, _, _⟩⟩ := b
    simp at h; simp [h]
  ks := [5, 5, 5, 5, 0, 1, 5, 5, 5, 5, 5, 1]
  kinds a := rfl

instance : TBA Tryz.prog 104 1 (List.replicate 8 (.string ⟨#[]⟩)) := ⟨by kernel_rfl, by kernel_rfl⟩
def nmT : List ByteArray := [⟨#[97]⟩, ⟨#[98]⟩, ⟨#[99]⟩, ⟨#[100, 105, 115, 107]⟩, ⟨#[110, 101, 116]⟩, ⟨#[95, 120]⟩, ⟨#[84, 105, 109, 101, 114]⟩, ⟨#[57]⟩]
def nm (v : Int) : ByteArray := nmT.getD (v % 8).toNat ⟨#[]⟩
instance (v : Int) : PC Tryz.prog 44 [.int .i64 v] (.string (nm v)) := ⟨fun w => by
  have h0 : 0 ≤ v % 8 := Int.emod_nonneg v (by decide)
  have h1 : v % 8 < 8 := Int.emod_lt_of_pos v (by decide)
  have hv : (nmT.map Value.string).toArray[(v % 8).toNat]? = some (.string (nm v)) := by
    have hl : (v % 8).toNat < nmT.length := by show _ < 8; omega
    unfold nm
    simp [List.getD, List.getElem?_eq_getElem hl]
  refine calls_of_W Tryz.func44 rfl rfl ?_
  repeat (first | (first | refine W_seq ?_ | refine W_block ?_ | refine W_region ?_ | refine W_skip ?_ | refine W_ret ?_ | refine W_exit ?_) | (first | refine L_nil ?_ | (apply L_plain; first | (apply L_go; first | refine lP ?_ | (refine lPg ?_; intro w hw)) | (apply L_mf; refine lMakeFunc ?_) | refine lY ?_) | (apply L_guarded; first | refine lGT ?_ | refine lGF ?_ | (apply L_go; refine lPG ?_) | refine lG ?_)))
  refine lY ?_ (hy := y_buildA rfl)
  repeat (first | (first | refine W_seq ?_ | refine W_block ?_ | refine W_region ?_ | refine W_skip ?_ | refine W_ret ?_ | refine W_exit ?_) | (first | refine L_nil ?_ | (apply L_plain; first | (apply L_go; first | refine lP ?_ | (refine lPg ?_; intro w hw)) | (apply L_mf; refine lMakeFunc ?_) | refine lY ?_) | (apply L_guarded; first | refine lGT ?_ | refine lGF ?_ | (apply L_go; refine lPG ?_) | refine lG ?_)))
  refine lY ?_ (hy := y_indexA (n := 8) (E := 9) rfl rfl h0 h1 hv)
  repeat (first | (first | refine W_seq ?_ | refine W_block ?_ | refine W_region ?_ | refine W_skip ?_ | refine W_ret ?_ | refine W_exit ?_) | (first | refine L_nil ?_ | (apply L_plain; first | (apply L_go; first | refine lP ?_ | (refine lPg ?_; intro w hw)) | (apply L_mf; refine lMakeFunc ?_) | refine lY ?_) | (apply L_guarded; first | refine lGT ?_ | refine lGF ?_ | (apply L_go; refine lPG ?_) | refine lG ?_)))
  exact ⟨_, rfl, rfl, rfl⟩⟩

def smallX (x : Step) : Bool := x.Raw && decide ((x.S.Name.size : Int) ≤ 60) && decide ((x.W.Name.size : Int) ≤ 60)
def plS (x : Step) : Service := if smallX x = true then x.S else ⟨nm x.Name, x.Core % 4, 64 * (x.V % 100), x.V % 3⟩
def plW (x : Step) : Waiter := if smallX x = true then x.W else ⟨1 + x.V % 5, x.Core % 4, nm x.Name⟩
theorem plain_any (Γ : Gho) (S : List Res) (w : World) (x : Step) (hw : Wd Γ S w) :
    Calls Tryz.prog 16 #[.agg (enc x).toArray] w fun e w' => e = .returned (.tuple #[svcV (plS x), .agg (enc (plW x)).toArray]) ∧ Wd Γ S w' := by
  refine calls_of_WC Tryz.func16 rfl rfl ?_
  repeat (first | (first | refine W_seq ?_ | refine W_block ?_ | refine W_region ?_ | refine W_skip ?_ | refine W_ret ?_ | refine W_exit ?_) | (first | refine L_nil ?_ | (apply L_plain; first | (apply L_go; first | refine lP ?_ | (refine lPg ?_; intro w hw)) | (apply L_mf; refine lMakeFunc ?_) | refine lY ?_) | (apply L_guarded; first | refine lGT ?_ | refine lGF ?_ | (apply L_go; refine lPG ?_) | refine lG ?_)))
  refine lBox ?_
  intro b1 w hw
  refine lAlloc ?_
  intro b2 w hw
  refine lAlloc ?_
  intro b3 w hw
  repeat (first | (first | refine W_seq ?_ | refine W_block ?_ | refine W_region ?_ | refine W_skip ?_ | refine W_ret ?_ | refine W_exit ?_) | (first | refine L_nil ?_ | (apply L_plain; first | (apply L_go; first | refine lP ?_ | (refine lPg ?_; intro w hw)) | (apply L_mf; refine lMakeFunc ?_) | refine lY ?_) | (apply L_guarded; first | refine lGT ?_ | refine lGF ?_ | (apply L_go; refine lPG ?_) | refine lG ?_)))
  refine W_cond rfl (fun h => ?_) (fun h => ?_)
  · have h : smallX x = true := h
    repeat (first | (first | refine W_seq ?_ | refine W_block ?_ | refine W_region ?_ | refine W_skip ?_ | refine W_ret ?_ | refine W_exit ?_) | (first | refine L_nil ?_ | (apply L_plain; first | (apply L_go; first | refine lP ?_ | (refine lPg ?_; intro w hw)) | (apply L_mf; refine lMakeFunc ?_) | refine lY ?_) | (apply L_guarded; first | refine lGT ?_ | refine lGF ?_ | (apply L_go; refine lPG ?_) | refine lG ?_)))
    refine W_mix1 [_] _ [[],[],[],[],[0],[0]] [[],[],[],[],[0],[0]] (hw.ps [2]) ?_
    repeat (first | refine mY ?_ | refine mP ?_ | refine mEndAt ?_ | refine mEnd0 ?_ | refine mEnd ?_)
    refine mStoreC (j := 1) ?_
    repeat (first | refine mY ?_ | refine mP ?_ | refine mEndAt ?_ | refine mEnd0 ?_ | refine mEnd ?_)
    refine mStoreC (j := 0) ?_
    repeat (first | refine mY ?_ | refine mP ?_ | refine mEndAt ?_ | refine mEnd0 ?_ | refine mEnd ?_)
    intro w hw
    have hw := Wd.dropEnd (A := [_]) hw
    repeat (first | (first | refine W_seq ?_ | refine W_block ?_ | refine W_region ?_ | refine W_skip ?_ | refine W_ret ?_ | refine W_exit ?_) | (first | refine L_nil ?_ | (apply L_plain; first | (apply L_go; first | refine lP ?_ | (refine lPg ?_; intro w hw)) | (apply L_mf; refine lMakeFunc ?_) | refine lY ?_) | (apply L_guarded; first | refine lGT ?_ | refine lGF ?_ | (apply L_go; refine lPG ?_) | refine lG ?_)))
    refine ⟨[svcV (plS x), .agg (enc (plW x)).toArray], ⟨?_, ?_, trivial⟩, rfl, hw.drop.drop.drop⟩
    · rw [show plS x = x.S from by simp [plS, h]]
      exact resC (i := 2) hw rfl rfl rfl
    · rw [show plW x = x.W from by simp [plW, h]]
      exact resC (i := 1) hw rfl rfl rfl
  · have h : smallX x = false := h
    repeat (first | (first | refine W_seq ?_ | refine W_block ?_ | refine W_region ?_ | refine W_skip ?_ | refine W_ret ?_ | refine W_exit ?_) | (first | refine L_nil ?_ | (apply L_plain; first | (apply L_go; first | refine lP ?_ | (refine lPg ?_; intro w hw)) | (apply L_mf; refine lMakeFunc ?_) | refine lY ?_) | (apply L_guarded; first | refine lGT ?_ | refine lGF ?_ | (apply L_go; refine lPG ?_) | refine lG ?_)))
    refine W_mix1 [_] _ [[],[],[],[],[],[],[],[],[],[],[],[],[],[],[],[],[],[],[],[],[],[0],[0]] [[],[],[],[],[],[],[],[],[],[],[],[],[],[],[],[],[],[],[],[],[],[0],[0]] (hw.ps [2]) ?_
    repeat (first | refine mY ?_ | refine mP ?_ | refine mEndAt ?_ | refine mEnd0 ?_ | refine mEnd ?_)
    refine mY (v := .agg (enc (⟨nm x.Name, x.Core % 4, 64 * (x.V % 100), x.V % 3⟩ : Service)).toArray) ?_ rfl rfl rfl (fun Y w g hw => y_build rfl)
    repeat (first | refine mY ?_ | refine mP ?_ | refine mEndAt ?_ | refine mEnd0 ?_ | refine mEnd ?_)
    refine mY (v := .agg (enc (⟨1 + x.V % 5, x.Core % 4, nm x.Name⟩ : Waiter)).toArray) ?_ rfl rfl rfl (fun Y w g hw => y_build rfl)
    repeat (first | refine mY ?_ | refine mP ?_ | refine mEndAt ?_ | refine mEnd0 ?_ | refine mEnd ?_)
    refine mStoreC (j := 1) ?_
    repeat (first | refine mY ?_ | refine mP ?_ | refine mEndAt ?_ | refine mEnd0 ?_ | refine mEnd ?_)
    refine mStoreC (j := 0) ?_
    repeat (first | refine mY ?_ | refine mP ?_ | refine mEndAt ?_ | refine mEnd0 ?_ | refine mEnd ?_)
    intro w hw
    have hw := Wd.dropEnd (A := [_]) hw
    repeat (first | (first | refine W_seq ?_ | refine W_block ?_ | refine W_region ?_ | refine W_skip ?_ | refine W_ret ?_ | refine W_exit ?_) | (first | refine L_nil ?_ | (apply L_plain; first | (apply L_go; first | refine lP ?_ | (refine lPg ?_; intro w hw)) | (apply L_mf; refine lMakeFunc ?_) | refine lY ?_) | (apply L_guarded; first | refine lGT ?_ | refine lGF ?_ | (apply L_go; refine lPG ?_) | refine lG ?_)))
    refine ⟨[svcV (plS x), .agg (enc (plW x)).toArray], ⟨?_, ?_, trivial⟩, rfl, hw.drop.drop.drop⟩
    · rw [show plS x = ⟨nm x.Name, x.Core % 4, 64 * (x.V % 100), x.V % 3⟩ from by simp [plS, h]]
      exact resC (i := 2) hw rfl rfl rfl
    · rw [show plW x = ⟨1 + x.V % 5, x.Core % 4, nm x.Name⟩ from by simp [plW, h]]
      exact resC (i := 1) hw rfl rfl rfl

def woK (token core : Int) (all : Bool) (x : Waiter) : Bool := decide (x.Core ≠ core) || (!all && decide (x.Token ≠ token))
end Go.Proofs.YtekdbdhkpolooaaGreat
end
/- Plain law: what a name server keeps under every step. -/
section
open Go Mk
namespace Go.Proofs.YtekdbdhkpolooaaGreat
set_option maxHeartbeats 400000
attribute [local irreducible] Calls

structure Inv (m : List (ByteArray × Service)) (ws : List Waiter) : Prop where
  key : ∀ p ∈ m, p.1 = p.2.Name
  nd : (m.map (·.1)).Nodup
  ml : m.length ≤ 64
  wl : ws.length ≤ 64
  wu : ws.Pairwise fun a b => ¬ (a.Token = b.Token ∧ a.Core = b.Core)
  fr : ∀ x ∈ ws, x.Name ∉ m.map (·.1)
theorem inv_nil : Inv [] [] := ⟨fun _ h => by simp at h, by simp, by simp, by simp, by simp, fun _ h => by simp at h⟩
theorem inv_sub {m m' : List (ByteArray × Service)} {ws ws' : List Waiter} (h : Inv m ws) (h1 : m'.Sublist m) (h2 : ws'.Sublist ws) : Inv m' ws' :=
  ⟨fun p hp => h.key p (h1.subset hp), h.nd.sublist (h1.map _), Nat.le_trans h1.length_le h.ml, Nat.le_trans h2.length_le h.wl, h.wu.sublist h2, fun x hx hm => h.fr x (h2.subset hx) ((h1.map _).subset hm)⟩
theorem aSet_new {m : List (ByteArray × Service)} {a : ByteArray} {v : Service} (h : aGet m a = none) : aSet m a v = m ++ [(a, v)] := by
  unfold aGet at h
  unfold aSet
  cases hi : aIx m a with
  | none => rfl
  | some i =>
    obtain ⟨u, hu⟩ := aIx_get hi
    rw [hi] at h
    simp [hu] at h
theorem inv_reg {m : List (ByteArray × Service)} {ws : List Waiter} (h : Inv m ws) (v : Service) : Inv (regM m v) (regW m ws v) := by
  by_cases hE : regErr m v = 0
  · have hg : aGet m v.Name = none := by
      unfold regErr at hE
      cases hg : aGet m v.Name with
      | none => rfl
      | some u =>
        rw [hg] at hE
        split at hE
        · simp at hE
        split at hE
        · simp at hE
        simp at hE
    have hl : m.length ≠ 64 := by
      intro hl
      unfold regErr at hE
      rw [hg, if_pos hl] at hE
      split at hE
      · simp at hE
      split at hE
      · simp at hE
      simp at hE
    have h1 : regM m v = m ++ [(v.Name, v)] := by unfold regM; rw [if_pos hE, aSet_new hg]
    have h2 : regW m ws v = ws.filter fun x => !decide (x.Name = v.Name) := by unfold regW; rw [if_pos hE]
    rw [h1, h2]
    have hs : (ws.filter fun x => !decide (x.Name = v.Name)).Sublist ws := List.filter_sublist
    refine ⟨fun p hp => ?_, ?_, ?_, Nat.le_trans hs.length_le h.wl, h.wu.sublist hs, fun x hx hm => ?_⟩
    · rcases List.mem_append.1 hp with hp | hp
      · exact h.key p hp
      · simp at hp; subst hp; rfl
    · rw [List.map_append, List.nodup_append]
      refine ⟨h.nd, by simp, fun a ha b hb => ?_⟩
      simp only [List.map_cons, List.map_nil, List.mem_singleton] at hb
      subst hb
      intro he; subst he
      exact aGet_none.1 hg ha
    · have := h.ml
      simp; omega
    · rw [List.mem_filter] at hx
      rw [List.map_append, List.mem_append] at hm
      rcases hm with hm | hm
      · exact h.fr x hx.1 hm
      · simp at hm; simp [hm] at hx
  · rw [show regM m v = m from by simp [regM, hE], show regW m ws v = ws from by simp [regW, hE]]; exact h
theorem inv_un {m : List (ByteArray × Service)} {ws : List Waiter} (h : Inv m ws) (name : ByteArray) (core : Int) : Inv (unM m name core) ws := by
  unfold unM; split
  · exact inv_sub h aDel_sub (List.Sublist.refl _)
  · exact h
theorem inv_aw {m : List (ByteArray × Service)} {ws : List Waiter} (h : Inv m ws) (x : Waiter) : Inv m (awW m ws x) := by
  unfold awW; split
  · rename_i hE
    obtain ⟨hE, hg⟩ := hE
    have hg : aGet m x.Name = none := by simpa using hg
    unfold awErr at hE
    rw [hg] at hE
    split at hE
    · simp at hE
    split at hE
    · simp at hE
    split at hE
    · simp at hE
    rename_i hf
    split at hE
    · simp at hE
    rename_i hl
    have hl : ws.length ≠ 64 := fun hh => hl ⟨rfl, hh⟩
    have hf : ws.findIdx? (isW x.Token x.Core) = none := by simpa using hf
    rw [List.findIdx?_eq_none_iff] at hf
    refine ⟨h.key, h.nd, h.ml, by have := h.wl; simp; omega, ?_, fun y hy hm => ?_⟩
    · rw [List.pairwise_append]
      refine ⟨h.wu, by simp, fun a ha b hb => ?_⟩
      simp at hb; subst hb
      have := hf a ha
      simpa [isW] using this
    · rcases List.mem_append.1 hy with hy | hy
      · exact h.fr y hy hm
      · simp at hy; subst hy; exact aGet_none.1 hg hm
  · exact h
theorem inv_ca {m : List (ByteArray × Service)} {ws : List Waiter} (h : Inv m ws) (token core : Int) : Inv m (caW ws token core) := by
  unfold caW; split
  · exact inv_sub h (List.Sublist.refl _) (List.eraseIdx_sublist _ _)
  · exact h
theorem inv_dep {m : List (ByteArray × Service)} {ws : List Waiter} (h : Inv m ws) (l : List Service) (p : Waiter → Bool) : Inv (delAll m l) (ws.filter p) := inv_sub h (delAll_sub _ _) List.filter_sublist

theorem sorted_nd {m : List (ByteArray × Service)} {ws : List Waiter} {ys : List Service} (h : Inv m ws) (hs : Sorted m ys) : (ys.map (·.Name)).Perm (m.map (·.1)) := by
  have h1 := hs.perm.map (·.Name)
  rw [List.map_map] at h1
  have h2 : m.map ((·.Name) ∘ (·.2)) = m.map (·.1) := List.map_congr_left fun p hp => (h.key p hp).symm
  rw [h2] at h1; exact h1
theorem sorted_strict {m : List (ByteArray × Service)} {ws : List Waiter} {ys : List Service} (h : Inv m ws) (hs : Sorted m ys) : ys.Pairwise fun a b => bLt a.Name b.Name = true := by
  have h1 : (ys.map (·.Name)).Nodup := (sorted_nd h hs).nodup_iff.2 h.nd
  rw [List.Nodup, List.pairwise_map] at h1
  refine (List.Pairwise.and hs.asc h1).imp fun {a b} hab => ?_
  cases hc : bLt a.Name b.Name with
  | true => rfl
  | false => exact absurd (bLt_total hc hab.1) hab.2
theorem sorted_free {m : List (ByteArray × Service)} {ws : List Waiter} {ys : List Service} (h : Inv m ws) (hs : Sorted m ys) {x : Waiter} {y : Service} (hx : x ∈ ws) (hy : y ∈ ys) : x.Name ≠ y.Name := fun he =>
  h.fr x hx ((sorted_nd h hs).mem_iff.1 (he ▸ List.mem_map.2 ⟨y, hy, rfl⟩))

theorem erase_filter {α : Type} {p : α → Bool} : ∀ {l : List α} {k : Nat}, l.Pairwise (fun a b => ¬ (p a = true ∧ p b = true)) → l.findIdx? p = some k → l.eraseIdx k = l.filter fun x => !p x
  | [], k, _, h => by simp at h
  | a :: l, k, hw, h => by
    rw [List.findIdx?_cons] at h
    rw [List.pairwise_cons] at hw
    cases hp : p a with
    | true =>
      rw [hp] at h; simp at h; subst h
      rw [List.filter_cons]
      simp only [hp, Bool.not_true, Bool.false_eq_true, if_false, List.eraseIdx_zero, List.tail_cons]
      refine (List.filter_eq_self.2 fun b hb => ?_).symm
      have := hw.1 b hb
      rw [hp] at this
      simpa using this
    | false =>
      rw [hp] at h; simp at h
      obtain ⟨j, hj, rfl⟩ := h
      rw [List.eraseIdx_cons_succ, List.filter_cons, hp]
      simp only [Bool.not_false, if_true]
      rw [erase_filter hw.2 hj]
theorem woK_one {token core : Int} {x : Waiter} : woK token core false x = !isW token core x := by
  unfold woK isW
  by_cases h1 : x.Token = token <;> by_cases h2 : x.Core = core <;> simp [h1, h2]
theorem cancel_eq {m : List (ByteArray × Service)} {ws : List Waiter} (h : Inv m ws) {token core : Int} (hc : caErr ws token core = 0) : caW ws token core = ws.filter (woK token core false) := by
  unfold caErr at hc
  unfold caW
  cases hf : ws.findIdx? (isW token core) with
  | none => rw [hf] at hc; simp at hc
  | some k =>
    show ws.eraseIdx k = _
    rw [erase_filter (p := isW token core) (h.wu.imp fun {a b} hab hh => hab ?_) hf]
    · exact List.filter_congr fun x _ => woK_one.symm
    · simp [isW] at hh; exact ⟨hh.1.1.trans hh.2.1.symm, hh.1.2.trans hh.2.2.symm⟩
theorem cancel_ne {ws : List Waiter} {token core : Int} (hc : caErr ws token core ≠ 0) : caW ws token core = ws := by
  unfold caErr at hc
  unfold caW
  cases hf : ws.findIdx? (isW token core) with
  | none => rfl
  | some k => rw [hf] at hc; simp at hc
theorem dep_eq {core : Int} {ws : List Waiter} : ws.filter (woK 0 core true) = ws.filter fun x => !ofCore core x := List.filter_congr fun x _ => by simp [woK, ofCore]

/-- The waiters that are still to be answered, when k are. -/
def left (v : Service) (ws : List Waiter) (k : Nat) : List Waiter := ws.filter fun x => decide (x ∉ (ws.filter fun x => decide (x.Name = v.Name)).take k)
theorem left_zero {v : Service} {ws : List Waiter} : left v ws 0 = ws := by simp [left]
theorem left_all {v : Service} {ws : List Waiter} : left v ws (ws.filter fun x => decide (x.Name = v.Name)).length = ws.filter fun x => !decide (x.Name = v.Name) := by
  unfold left
  rw [List.take_length]
  exact List.filter_congr fun x hx => by simp [List.mem_filter, hx]
theorem left_step {m : List (ByteArray × Service)} {ws : List Waiter} (h : Inv m ws) {v : Service} {k : Nat} {x : Waiter} (hx : (ws.filter fun x => decide (x.Name = v.Name))[k]? = some x) :
    x.Name = v.Name ∧ ∃ j, (left v ws k)[j]? = some x ∧ (∀ i y, (left v ws k)[i]? = some y → y.Token = x.Token → y.Core = x.Core → i = j) ∧ (left v ws k).eraseIdx j = left v ws (k + 1) := by
  have hxm := List.mem_of_getElem? hx
  have hxw := List.mem_filter.1 hxm
  have hu : (left v ws k).Pairwise fun a b => ¬ (a.Token = b.Token ∧ a.Core = b.Core) := h.wu.sublist List.filter_sublist
  have hM : (ws.filter fun x => decide (x.Name = v.Name)).Pairwise fun a b => ¬ (a.Token = b.Token ∧ a.Core = b.Core) := h.wu.sublist List.filter_sublist
  have hxl : x ∈ left v ws k := by
    unfold left
    refine List.mem_filter.2 ⟨hxw.1, decide_eq_true fun hm => ?_⟩
    obtain ⟨i, hi, hie⟩ := List.getElem_of_mem hm
    rw [List.length_take] at hi
    obtain ⟨hk, hke⟩ := List.getElem?_eq_some_iff.1 hx
    have := (List.pairwise_iff_getElem.1 hM) i k (by omega) hk (by omega)
    rw [List.getElem_take] at hie
    rw [hie, hke] at this
    exact this ⟨rfl, rfl⟩
  obtain ⟨j, hj, hje⟩ := List.getElem_of_mem hxl
  have huq : ∀ i y, (left v ws k)[i]? = some y → y.Token = x.Token → y.Core = x.Core → i = j := fun i y hy h1 h2 => by
    obtain ⟨hi, hie⟩ := List.getElem?_eq_some_iff.1 hy
    have hp := List.pairwise_iff_getElem.1 hu
    rcases Nat.lt_trichotomy i j with hlt | he | hlt
    · exact absurd ⟨by rw [hie, hje, h1], by rw [hie, hje, h2]⟩ (hp i j hi hj hlt)
    · exact he
    · exact absurd ⟨by rw [hie, hje, h1], by rw [hie, hje, h2]⟩ (hp j i hj hi hlt)
  refine ⟨by simpa using hxw.2, j, List.getElem?_eq_some_iff.2 ⟨hj, hje⟩, huq, ?_⟩
  have hf : (left v ws k).findIdx? (fun y => decide (y = x)) = some j := findIdx_at (x := x) (List.getElem?_eq_some_iff.2 ⟨hj, hje⟩) (by simp) fun i y hi hy => by
    cases hd : decide (y = x) with
    | false => rfl
    | true => exact absurd (huq i y hy (by rw [of_decide_eq_true hd]) (by rw [of_decide_eq_true hd])) (by omega)
  rw [erase_filter (p := fun y => decide (y = x)) (hu.imp fun {a b} hab hh => hab ?_) hf]
  · unfold left
    rw [List.filter_filter]
    refine List.filter_congr fun y _ => ?_
    rw [List.take_add_one, hx]
    simp only [List.mem_append, Option.toList_some, List.mem_singleton]
    by_cases h1 : y = x <;> by_cases h2 : y ∈ (ws.filter fun x => decide (x.Name = v.Name)).take k <;> simp [h1, h2]
  · simp at hh; rw [hh.1, hh.2]; exact ⟨rfl, rfl⟩
end Go.Proofs.YtekdbdhkpolooaaGreat
end
/- Two appends and an assignment in one region of undecided order. -/
section
open Go
namespace Mk
attribute [local irreducible] Calls
theorem W_has {P : Program} {n : Nat} {c : Code} {Q : Exit → Fr → World → Prop} {ρ : Fr} {w : World} {l : List (Nat × Value)} (h : Has ρ l) (k : ∀ ρ', Has ρ' l → W P n c Q ρ' w) : W P n c Q ρ w := k ρ h
theorem W_cut {P : Program} {n : Nat} {c1 c2 : Code} {Q : Exit → Fr → World → Prop} {ρ : Fr} {w : World} (I : Fr → World → Prop) (h1 : W P n c1 (Then I Q) ρ w) (h2 : ∀ ρ w, I ρ w → W P n c2 Q ρ w) : W P n (.seq c1 c2) Q ρ w :=
  W_seq (h1.mono fun e ρ w h => by cases e <;> first | exact h2 _ _ h | exact h)
section
variable {P : Program} {n : Nat} {ops : List Oper} {Γ : Gho} {K : List Res} {Q : Fr → World → Prop} {ρ : Fr} {rest : List Oper} {wr tc stab : List (List Nat)} {i : Nat} {M : Nat → Fr → List Res}
variable {T ty : TypeId} {pos : String} {es : Array Edge} {x y : Operand}
/-- An append onto nothing: the slice lies in a cell of its own. -/
theorem mAppNil {c dd E by' sz m cc : Nat} {zs : List Value} {a2 : Option Addr} {rows2 : List (List Value)} [TL P T E sz by' zs] (h : MSw (mV P n ops Γ K wr tc stab) Q (i + 1) rest ⟨putO ρ (some dd) undef, setC M c fun g => [.own (g dd) E sz rows2]⟩)
    (hrd : ∀ Y w, Wd Γ (K ++ Y) w → Rd w a2 sz rows2) (hl : m = rows2.length) (h1 : ∀ u ∈ rows2.flatten, u.oneCell' = true)
    (hx : ∀ g, ev (ovr stab.flatten g ρ) x = .slice none 0 0 := by intro g; exact rfl) (hy : ∀ g, ev (ovr stab.flatten g ρ) y = .slice a2 m cc := by intro g; exact rfl)
    (ht : tc.getD i [] = [c] := by exact rfl) (hM : M c = (fun _ => []) := by exact rfl)
    (hs : (stab.getD c []).contains dd = true := by exact rfl) (hfr : freeD stab (some dd) = true := by exact rfl) (hw0 : wr.getD i [] = [c] := by exact rfl)
    (hb : m * by' ≤ 140737488355328 := by omega) (h63 : m ≤ 9223372036854775807 := by omega) :
    MSw (mV P n ops Γ K wr tc stab) Q i (⟨some dd, .call { callee := .builtin .append, args := #[x, y], argTypes := #[T, T] }, ty, pos, es, none⟩ :: rest) ⟨ρ, M⟩ := by
  refine mM (v := undef) _ (fun Y w g hw => ?_) h hw0 rfl
  rw [cells1 ht, hM] at hw
  have hr := hrd _ _ hw
  refine s_append (i := 0) (Wd.addNil (a := none) (E := E) (sz := sz) hw) (hx g) (hy g) rfl hr hl h1 (by simpa using hb) (by simpa using h63) fun v' w' hw' => ⟨?_, fun hh => by rw [hfr] at hh; cases hh⟩
  rw [cells1 ht, setC_self]
  have h3 : ovr (stab.getD c []) (putO g (some dd) v') noFr dd = v' := by
    rw [ovr_in (by simpa using hs)]; exact upd_same _ _ _
  rw [h3]
  exact Wd.unmid hw'
/-- An append onto the slice of the cell. -/
theorem mAppOwn {c dx dd E by' sz m cc : Nat} {zs : List Value} {a2 : Option Addr} {rows rows2 : List (List Value)} [TL P T E sz by' zs] (h : MSw (mV P n ops Γ K wr tc stab) Q (i + 1) rest ⟨putO ρ (some dd) undef, setC M c fun g => [.own (g dd) E sz (rows ++ rows2)]⟩)
    (hrd : ∀ Y w, Wd Γ (K ++ Y) w → Rd w a2 sz rows2) (hl : m = rows2.length) (h1 : ∀ u ∈ rows2.flatten, u.oneCell' = true)
    (hy : ∀ g, ev (ovr stab.flatten g ρ) y = .slice a2 m cc := by intro g; exact rfl)
    (ht : tc.getD i [] = [c] := by exact rfl) (hM : M c = (fun g => [.own (g dx) E sz rows]) := by exact rfl)
    (hs : (stab.getD c []).contains dd = true := by exact rfl) (hsx : (stab.getD c []).contains dx = true := by exact rfl) (hfx : stab.flatten.contains dx = true := by exact rfl) (hfr : freeD stab (some dd) = true := by exact rfl) (hw0 : wr.getD i [] = [c] := by exact rfl)
    (hb : (rows.length + m) * by' ≤ 140737488355328 := by omega) (h63 : rows.length + m ≤ 9223372036854775807 := by omega) :
    MSw (mV P n ops Γ K wr tc stab) Q i (⟨some dd, .call { callee := .builtin .append, args := #[.tmp dx, y], argTypes := #[T, T] }, ty, pos, es, none⟩ :: rest) ⟨ρ, M⟩ := by
  refine mM (v := undef) _ (fun Y w g hw => ?_) h hw0 rfl
  rw [cells1 ht, hM] at hw
  have h2 : ovr (stab.getD c []) g noFr dx = g dx := ovr_in (by simpa using hsx)
  simp only [h2] at hw
  have hr := hrd _ _ hw
  have hi1 : (K ++ ([.own (g dx) E sz rows] ++ Y))[K.length]? = some (.own (g dx) E sz rows) := by
    rw [List.getElem?_append_right (Nat.le_refl _)]; simp
  obtain ⟨a, m1, c1, e1, e2, e3, e4⟩ := hw.own_shape hi1
  have hx : ev (ovr stab.flatten g ρ) (.tmp dx) = .slice a m1 c1 := by
    show ovr stab.flatten g ρ dx = _
    rw [ovr_in (by simpa using hfx)]; exact e1
  have hi2 := hi1
  rw [e1] at hi2
  refine s_append (i := K.length) (rows := rows) hw hx (hy g) (by rw [hi1, e1]) hr hl h1 (by rw [e2]; exact hb) (by rw [e2]; exact h63) fun v' w' hw' => ⟨?_, fun hh => by rw [hfr] at hh; cases hh⟩
  rw [cells1 ht, setC_self]
  have h3 : ovr (stab.getD c []) (putO g (some dd) v') noFr dd = v' := by
    rw [ovr_in (by simpa using hs)]; exact upd_same _ _ _
  rw [h3]
  rw [List.set_append_right _ _ (Nat.le_refl _), Nat.sub_self] at hw'
  exact hw'
/-- An append of the slice of one cell onto that of another. -/
theorem mAppOwn2 {c c2 dx dy dd E by' sz : Nat} {zs : List Value} {rows rows2 : List (List Value)} [TL P T E sz by' zs] (h : MSw (mV P n ops Γ K wr tc stab) Q (i + 1) rest ⟨putO ρ (some dd) undef, setC M c fun g => [.own (g dd) E sz (rows ++ rows2)]⟩)
    (h1 : ∀ u ∈ rows2.flatten, u.oneCell' = true) (ht : tc.getD i [] = [c, c2] := by exact rfl) (hM : M c = (fun g => [.own (g dx) E sz rows]) := by exact rfl) (hM2 : M c2 = (fun g => [.own (g dy) E sz rows2]) := by exact rfl) (hcc : c2 ≠ c := by decide) (hdd : dy ≠ dd := by decide)
    (hs : (stab.getD c []).contains dd = true := by exact rfl) (hsx : (stab.getD c []).contains dx = true := by exact rfl) (hsy : (stab.getD c2 []).contains dy = true := by exact rfl) (hfx : stab.flatten.contains dx = true := by exact rfl) (hfy : stab.flatten.contains dy = true := by exact rfl) (hfr : freeD stab (some dd) = true := by exact rfl) (hw0 : wr.getD i [] = [c] := by exact rfl)
    (hb : (rows.length + rows2.length) * by' ≤ 140737488355328 := by omega) (h63 : rows.length + rows2.length ≤ 9223372036854775807 := by omega) :
    MSw (mV P n ops Γ K wr tc stab) Q i (⟨some dd, .call { callee := .builtin .append, args := #[.tmp dx, .tmp dy], argTypes := #[T, T] }, ty, pos, es, none⟩ :: rest) ⟨ρ, M⟩ := by
  refine mM (v := undef) _ (fun Y w g hw => ?_) h hw0 rfl
  rw [cells2 ht, hM, hM2] at hw
  have h2 : ovr (stab.getD c []) g noFr dx = g dx := ovr_in (by simpa using hsx)
  have h2' : ovr (stab.getD c2 []) g noFr dy = g dy := ovr_in (by simpa using hsy)
  simp only [h2, h2'] at hw
  have hi1 : (K ++ (([.own (g dx) E sz rows] ++ [.own (g dy) E sz rows2]) ++ Y))[K.length]? = some (.own (g dx) E sz rows) := by
    rw [List.getElem?_append_right (Nat.le_refl _)]; simp
  have hj1 : (K ++ (([.own (g dx) E sz rows] ++ [.own (g dy) E sz rows2]) ++ Y))[K.length + 1]? = some (.own (g dy) E sz rows2) := by
    rw [List.getElem?_append_right (by omega)]; simp
  obtain ⟨a, m1, c1, e1, e2, e3, e4⟩ := hw.own_shape hi1
  obtain ⟨a2, m2, k2, f1, f2, f3, f4⟩ := hw.own_shape hj1
  have hx : ev (ovr stab.flatten g ρ) (.tmp dx) = .slice a m1 c1 := by
    show ovr stab.flatten g ρ dx = _
    rw [ovr_in (by simpa using hfx)]; exact e1
  have hy : ev (ovr stab.flatten g ρ) (.tmp dy) = .slice a2 m2 k2 := by
    show ovr stab.flatten g ρ dy = _
    rw [ovr_in (by simpa using hfy)]; exact f1
  have hr : Rd w a2 sz rows2 := by
    have hj2 := hj1
    rw [f1] at hj2
    exact hw.own_rd (i := K.length + 1) (by rw [hj1, f1])
  refine s_append (i := K.length) (rows := rows) hw hx hy (by rw [hi1, e1]) hr f2 h1 (by rw [e2, f2]; exact hb) (by rw [e2, f2]; exact h63) fun v' w' hw' => ⟨?_, fun hh => by rw [hfr] at hh; cases hh⟩
  rw [cells2 ht, setC_self, setC_other hcc, hM2]
  have h3 : ovr (stab.getD c []) (putO g (some dd) v') noFr dd = v' := by
    rw [ovr_in (by simpa using hs)]; exact upd_same _ _ _
  have h4 : ovr (stab.getD c2 []) (putO g (some dd) v') noFr dy = g dy := by
    rw [ovr_in (by simpa using hsy)]; exact upd_ne _ _ hdd
  simp only [h3, h4]
  rw [List.set_append_right _ _ (Nat.le_refl _), Nat.sub_self] at hw'
  exact hw'
/-- The slice of the cell is assigned. -/
theorem mAssV {c dx dd E sz : Nat} {rows : List (List Value)} (h : MSw (mV P n ops Γ K wr tc stab) Q (i + 1) rest ⟨putO ρ (some dd) undef, setC M c fun g => [.own (g dd) E sz rows]⟩)
    (ht : tc.getD i [] = [c] := by exact rfl) (hM : M c = (fun g => [.own (g dx) E sz rows]) := by exact rfl)
    (hs : (stab.getD c []).contains dd = true := by exact rfl) (hsx : (stab.getD c []).contains dx = true := by exact rfl) (hfx : stab.flatten.contains dx = true := by exact rfl) (hfr : freeD stab (some dd) = true := by exact rfl) (hw0 : wr.getD i [] = [c] := by exact rfl) :
    MSw (mV P n ops Γ K wr tc stab) Q i (⟨some dd, .assign (.tmp dx), ty, pos, es, none⟩ :: rest) ⟨ρ, M⟩ := by
  refine mM (v := undef) _ (fun Y w g hw => ?_) h hw0 rfl
  rw [cells1 ht, hM] at hw
  have h2 : ovr (stab.getD c []) g noFr dx = g dx := ovr_in (by simpa using hsx)
  simp only [h2] at hw
  have hx : ev (ovr stab.flatten g ρ) (.tmp dx) = g dx := by
    show ovr stab.flatten g ρ dx = _
    rw [ovr_in (by simpa using hfx)]
  refine (y_assign (P := P) (w := w) hx).step ⟨?_, fun hh => by rw [hfr] at hh; cases hh⟩
  rw [cells1 ht, setC_self]
  have h3 : ovr (stab.getD c []) (putO g (some dd) (g dx)) noFr dd = g dx := by
    rw [ovr_in (by simpa using hs)]; exact upd_same _ _ _
  rw [h3]
  exact hw
/-- A fact that needs no memory. -/
def Res.pure (p : Prop) : Res where
  holds _ bs _ := bs = [] ∧ p
  loc _ _ _ _ _ _ _ h := h
theorem Wd.pureIn {p : Prop} {S : List Res} {w : World} (hp : p) (hw : Wd Γ S w) : Wd Γ (Res.pure p :: S) w := by
  obtain ⟨bss, h1, h2, h3⟩ := hw.own
  exact ⟨hw.os, hw.tape, hw.out, hw.dr, hw.imm, [] :: bss, ⟨⟨rfl, hp⟩, h1⟩, by simpa using h2, by simpa using h3⟩
theorem Wd.pureOut {p : Prop} {S : List Res} {w : World} {i : Nat} (hw : Wd Γ S w) (hi : S[i]? = some (Res.pure p)) : p := by
  obtain ⟨bss, h1, h2, h3⟩ := hw.own
  obtain ⟨bs, _, hr⟩ := Holds.get S bss i _ h1 hi
  exact hr.2
theorem W_mixP {id : Nat} {l : List Oper} {QQ : Exit → Fr → World → Prop} {w : World} (wr tc : List (List Nat)) (s0 : List Nat) (dd : Nat) (v0 : Value) (h : MSw (mV P n l Γ K wr tc [s0, [dd]]) (fun ρ w => QQ .normal ρ w) 0 l ⟨ρ, ML [fun _ => [], fun g => [Res.pure (g dd = v0)]]⟩)
    (he : ρ dd = v0 := by exact rfl) (hw : Wd Γ K w := by exact hw) (hm : P.follows .mixedOrders = true := by kernel_rfl) (hk : checkM n l wr tc [s0, [dd]] = true := by kernel_rfl) : W P n (.region id l.toArray true) QQ ρ w :=
  W_mixed K _ wr tc [s0, [dd]] (by
    show Wd Γ (K ++ ([] ++ ([Res.pure (ovr [dd] ρ noFr dd = v0)] ++ []))) w
    have h1 : ovr [dd] ρ noFr dd = v0 := by rw [ovr_in (by simp)]; exact he
    exact (Wd.pureIn h1 hw).perm (by simpa using (List.perm_append_comm (l₁ := [Res.pure (ovr [dd] ρ noFr dd = v0)]) (l₂ := K)))) h hm hk
/-- What the cell c2 says of t(dd). -/
theorem mMoveR {c2 dd : Nat} {d : Option Tmp} {v0 : Value} (h : MSw (mV P n ops Γ K wr tc stab) Q (i + 1) rest ⟨putO ρ d v0, M⟩)
    (ht : tc.getD i [] = [c2] := by exact rfl) (hM : M c2 = (fun g => [Res.pure (g dd = v0)]) := by exact rfl) (hs : (stab.getD c2 []).contains dd = true := by exact rfl) (hf : stab.flatten.contains dd = true := by exact rfl)
    (hw0 : wr.getD i [] = [] := by exact rfl) (ho : outOf tc stab i d = true := by exact rfl) : MSw (mV P n ops Γ K wr tc stab) Q i (⟨d, .move (.tmp dd), ty, pos, es, none⟩ :: rest) ⟨ρ, M⟩ := by
  refine mY (v := v0) h hw0 rfl ho (fun Y w g hw => ?_)
  rw [cells1 ht, hM] at hw
  have h2 : ovr (stab.getD c2 []) g noFr dd = g dd := ovr_in (by simpa using hs)
  have h3 := Wd.pureOut (p := ovr (stab.getD c2 []) g noFr dd = v0) hw (i := K.length) (by rw [List.getElem?_append_right (Nat.le_refl _)]; simp)
  rw [h2] at h3
  refine y_move ?_
  show ovr stab.flatten g ρ dd = _
  rw [ovr_in (by simpa using hf)]; exact h3
/-- The slice of the cell 0 is assigned to the t of the cell 1. -/
theorem mAssX {dx dd E sz : Nat} {v0 : Value} {rows : List (List Value)} (h : MSw (mV P n ops Γ K wr tc stab) Q (i + 1) rest ⟨putO ρ (some dd) undef, setC (setC M 0 fun _ => []) 1 fun g => [.own (g dd) E sz rows]⟩)
    (ht : tc.getD i [] = [0, 1] := by exact rfl) (hM : M 0 = (fun g => [.own (g dx) E sz rows]) := by exact rfl) (hM2 : M 1 = (fun g => [Res.pure (g dd = v0)]) := by exact rfl)
    (hs : (stab.getD 1 []).contains dd = true := by exact rfl) (hsx : (stab.getD 0 []).contains dx = true := by exact rfl) (hfx : stab.flatten.contains dx = true := by exact rfl) (hfr : freeD stab (some dd) = true := by exact rfl) (hw0 : wr.getD i [] = [0, 1] := by exact rfl) :
    MSw (mV P n ops Γ K wr tc stab) Q i (⟨some dd, .assign (.tmp dx), ty, pos, es, none⟩ :: rest) ⟨ρ, M⟩ := by
  have hn : Mt.nxt (mV P n ops Γ K wr tc stab) i ⟨ρ, M⟩ ⟨undef, setC (fun _ _ => []) 1 fun g => [.own (g dd) E sz rows]⟩ = setC (setC M 0 fun _ => []) 1 fun g => [.own (g dd) E sz rows] := by
    funext y; simp only [Mt.nxt, MEnv.w, hw0, setC]
    by_cases h0 : y = 0
    · subst h0; rfl
    · by_cases h1 : y = 1
      · subst h1; rfl
      · simp [h0, h1]
  refine ⟨⟨undef, setC (fun _ _ => []) 1 fun g => [.own (g dd) E sz rows]⟩, ⟨fun Γ' Y w g hr hw => ?_⟩, ?_⟩
  · have hΓ : Γ' = Γ := hr
    subst hΓ
    rw [hn]
    refine ⟨fun _ => ?_, fun hf => ?_⟩
    · have hw' : Wd Γ' (K ++ (cellsAt tc stab i M g ++ Y)) w := hw
      unfold cellsAt at hw'
      rw [ht] at hw'
      simp only [List.flatMap_cons, List.flatMap_nil, hM, hM2, List.append_nil] at hw'
      have h2 : ovr (stab.getD 0 []) g noFr dx = g dx := ovr_in (by simpa using hsx)
      rw [h2] at hw'
      have hx : ev (ovr stab.flatten g ρ) (.tmp dx) = g dx := by
        show ovr stab.flatten g ρ dx = _
        rw [ovr_in (by simpa using hfx)]
      refine (y_assign (P := P) (w := w) hx).step ⟨Γ', rfl, ?_, fun hh => ?_⟩
      · show Wd Γ' (K ++ (cellsAt tc stab i _ _ ++ Y)) w
        unfold cellsAt
        rw [ht]
        have h3 : ovr (stab.getD 1 []) (putO g (some dd) (g dx)) noFr dd = g dx := by
          rw [ovr_in (by simpa using hs)]; exact upd_same _ _ _
        show Wd Γ' (K ++ (([] ++ ([.own (ovr (stab.getD 1 []) (putO g (some dd) (g dx)) noFr dd) E sz rows] ++ [])) ++ Y)) w
        rw [h3]
        have h4 := hw'.perm (S' := Res.pure (ovr (stab.getD 1 []) g noFr dd = v0) :: (K ++ (.own (g dx) E sz rows :: Y))) (by
          simp only [List.append_assoc, List.cons_append, List.nil_append]
          exact (List.Perm.append_left K (List.Perm.swap _ _ _)).trans List.perm_middle)
        exact h4.drop
      · have hh' : freeD stab (some dd) = false := hh
        rw [hfr] at hh'; cases hh'
    · rw [wantF_none rfl] at hf; cases hf
  · simp only [Mt.next, hn]; exact h
end
end Mk
end
/- NameOnce: the walk. -/
section
open Go
open Mk
namespace Go.Proofs.YtekdbdhkpolooaaGreat
set_option maxHeartbeats 4000000
attribute [local irreducible] Calls regErr regM regW regF awErr awW awF awS unErr unM caErr caW foundOf delAll lkErr

theorem nm_small (v : Int) : (nm v).size ≤ 60 := by
  have h0 : 0 ≤ v % 8 := Int.emod_nonneg v (by decide)
  have h1 : v % 8 < 8 := Int.emod_lt_of_pos v (by decide)
  have h2 : ∀ s ∈ nmT, s.size ≤ 60 := by
    intro s hs
    have := List.all_eq_true.1 (show nmT.all (fun s => decide (s.size ≤ 60)) = true from by kernel_rfl) s hs
    exact of_decide_eq_true this
  have hl : (v % 8).toNat < nmT.length := by show _ < 8; omega
  unfold nm
  rw [List.getD_eq_getElem?_getD, List.getElem?_eq_getElem hl]
  exact h2 _ (List.getElem_mem hl)
theorem small_parts {x : Step} (h : smallX x = true) : x.S.Name.size ≤ 60 ∧ x.W.Name.size ≤ 60 := by
  simp [smallX] at h; omega
instance (x : Step) : SB (plS x).Name := ⟨by
  unfold plS; split
  · rename_i h; have := small_parts h; omega
  · have := nm_small x.Name; show (nm x.Name).size ≤ _; omega⟩
instance (x : Step) : SB (plW x).Name := ⟨by
  unfold plW; split
  · rename_i h; have := small_parts h; omega
  · have := nm_small x.Name; show (nm x.Name).size ≤ _; omega⟩
theorem take_one {α : Type} [GoT α] (xs : List α) (k : Nat) : ∀ u ∈ ((xs.map enc).take k).flatten, u.oneCell' = true := fun u hu => by
  have := List.all_eq_true.1 (encs_one (xs.take k)) u
  rw [List.map_take] at this
  exact this hu
theorem reg_plan {m : List (ByteArray × Service)} {ws : List Waiter} (h : Inv m ws) (v : Service) : ∃ (M : List Waiter) (lf : Nat → List Waiter), regF m ws v = M.map (mkF v) ∧ lf 0 = ws ∧ lf M.length = regW m ws v ∧ (∀ k, (lf k).length ≤ 64) ∧ M.length ≤ 64 ∧
    ∀ k x, M[k]? = some x → x.Name = v.Name ∧ ∃ j, (lf k)[j]? = some x ∧ (∀ i y, (lf k)[i]? = some y → y.Token = x.Token → y.Core = x.Core → i = j) ∧ (lf k).eraseIdx j = lf (k + 1) := by
  by_cases hE : regErr m v = 0
  · refine ⟨ws.filter fun x => decide (x.Name = v.Name), left v ws, by unfold regF foundOf; rw [if_pos hE], left_zero, by rw [left_all]; unfold regW; rw [if_pos hE], fun k => Nat.le_trans (List.length_filter_le _ _) h.wl, Nat.le_trans (List.length_filter_le _ _) h.wl, fun k x hx => left_step h hx⟩
  · exact ⟨[], fun _ => ws, by unfold regF; rw [if_neg hE]; rfl, rfl, by unfold regW; rw [if_neg hE], fun _ => h.wl, by simp, fun k x hx => by simp at hx⟩
theorem aGet_mem {m : List (ByteArray × Service)} {a : ByteArray} {v : Service} (h : aGet m a = some v) : (a, v) ∈ m := by
  unfold aGet at h
  cases hi : aIx m a with
  | none => rw [hi] at h; simp at h
  | some i =>
    obtain ⟨u, hu⟩ := aIx_get hi
    rw [hi] at h
    simp only [Option.bind_some, hu, Option.map_some, Option.some.injEq] at h
    subst h
    exact List.mem_of_getElem? hu
theorem aw_plan {m : List (ByteArray × Service)} {ws : List Waiter} (h : Inv m ws) (y : Waiter) : (awF m ws y = true → awErr m ws y = 0 ∧ (awS m ws y).Name = y.Name) ∧ awW m ws y = if awF m ws y = false ∧ awErr m ws y = 0 then ws ++ [y] else ws := by
  unfold awF awS awW
  by_cases hE : awErr m ws y = 0
  · cases hg : aGet m y.Name with
    | none => simp [hE]
    | some v =>
      have := h.key _ (aGet_mem hg)
      simp [hE]; exact this.symm
  · simp [hE]
end Go.Proofs.YtekdbdhkpolooaaGreat
end
/- From a walk in these words to the given form of a statement. -/
section
open Go Mk
namespace Go.Proofs.YtekdbdhkpolooaaGreat
open Go.ChangeShapes Go.WideShapes Go.ChangeAt Go.RowKit

theorem own_knob : ownKnob Tryz.prog.godebug = none := by kernel_rfl
theorem keptBut_wd {W W' : World} {S : List Res} (h : Wd (allG W) S W') (may : MemPlace → Prop) : W.keptBut W' may := by
  refine ⟨h.os, h.out, fun i hi => ?_⟩
  have h1 : W.heap[i]? = some W.heap[i] := Array.getElem?_eq_getElem hi
  have h2 := h.imm i W.heap[i] h1
  rw [h1, h2]
  cases W.heap[i] <;> simp
/-- The arguments read as before; what is answered is true. -/
theorem post_wd {H : Type} {enc : TypeId × Value → H} {f : Func} {s : ChangeSpec} {W W' : World} {S : List Res} {args : Array Value} {v : Value} {ds gs : List (DataW H)} {before pa pv : List MemPlace} {apart : Bool}
    (hW : DataW.Whole enc Tryz.prog f.params.toList s.vars apart W args.toList ds gs before)
    (hres : ∀ (b : Nat) (sp : Nat → Bool) (hd : Bool), DataW.TrodAll enc Tryz.prog W' b sp hd f.resultTypes.toList (v.resultList f.resultTypes.size) (s.fn H (ds ++ gs)).results [])
    (hargs : ∀ sp : Nat → Bool, (∀ p ∈ before, sp p.block = true) → DataW.TrodAll enc Tryz.prog W' 0 sp true f.params.toList args.toList (s.fn H (ds ++ gs)).args pa)
    (hvars : ∀ sp : Nat → Bool, (∀ p ∈ before, sp p.block = true) → DataW.TrodVars enc Tryz.prog W' sp s.vars (s.fn H (ds ++ gs)).vars pv)
    (hps : before = pa ++ pv) (hk : Wd (allG W) S W') : s.post enc Tryz.prog f apart true false false W args v W' := by
  have hold : ∀ p ∈ before, (fun b => decide (b < W.heap.size)) p.block = true := fun p hp => by simpa using hW.lt p hp
  exact ⟨ds, gs, before, [], pa, pv, hW, hres _ _ _, hargs _ hold, hvars _ hold, keptBut_wd hk _, fun h => by cases h⟩
end Go.Proofs.YtekdbdhkpolooaaGreat
end
/- A given list of steps, as the walk reads it; and what is given is read back. -/
section
open Go Mk
namespace Go.Proofs.YtekdbdhkpolooaaGreat
open Go.ChangeShapes Go.WideShapes Go.ChangeAt Go.RowKit
section
variable {H : Type} {en : TypeId × Value → H} {W W' : World} {base : Nat} {sp : Nat → Bool} {held : Bool} {S : List Res}
theorem field_at {t : TypeId} {fs : Array Field} {n : Nat} {cs : List Value} {y : DataW H × List MemPlace} (ht : Tryz.prog.underlying t = some (.struct fs)) (h : DataW.trod en Tryz.prog W base sp held n t cs = some y) (i : Nat) {f : Field} (hi : fs[i]? = some f) :
    ∃ m z, DataW.trod en Tryz.prog W base sp held m f.type ((cs.drop f.offset).take (Tryz.prog.cellsOf f.type)) = some z := by
  obtain ⟨xs, k, -, -, -, hx, hf⟩ := DataW.trod_struct ht h
  have h1 := hf i f hi
  have hil : i < xs.length := by rw [hx]; exact (Array.getElem?_eq_some_iff.1 hi).1
  exact ⟨k, _, h1.trans (List.getElem?_eq_getElem hil)⟩
theorem at_of {cs : List Value} {o : Nat} {v : Value} (h : (cs.drop o).take 1 = [v]) : cs[o]? = some v := by
  have h1 := congrArg (fun l : List Value => l[0]?) h
  simpa using h1
theorem int_at {t : TypeId} {fs : Array Field} {n : Nat} {cs : List Value} {y : DataW H × List MemPlace} (ht : Tryz.prog.underlying t = some (.struct fs)) (h : DataW.trod en Tryz.prog W base sp held n t cs = some y) (i : Nat) {f : Field} (hi : fs[i]? = some f) (hf : f.type = 3) : ∃ v : Int, cs[f.offset]? = some (.int .i64 v) := by
  obtain ⟨m, z, h1⟩ := field_at ht h i hi
  rw [hf, show Tryz.prog.cellsOf 3 = 1 from by kernel_rfl] at h1
  obtain ⟨v, h2, -⟩ := DataW.trod_int Tryz.underlying3 h1
  exact ⟨v, at_of h2⟩
theorem bool_at {t : TypeId} {fs : Array Field} {n : Nat} {cs : List Value} {y : DataW H × List MemPlace} (ht : Tryz.prog.underlying t = some (.struct fs)) (h : DataW.trod en Tryz.prog W base sp held n t cs = some y) (i : Nat) {f : Field} (hi : fs[i]? = some f) (hf : f.type = 4) : ∃ v : Bool, cs[f.offset]? = some (.bool v) := by
  obtain ⟨m, z, h1⟩ := field_at ht h i hi
  rw [hf, show Tryz.prog.cellsOf 4 = 1 from by kernel_rfl] at h1
  obtain ⟨v, h2, -⟩ := DataW.trod_bool Tryz.underlying4 h1
  exact ⟨v, at_of h2⟩
theorem string_at {t : TypeId} {fs : Array Field} {n : Nat} {cs : List Value} {y : DataW H × List MemPlace} (ht : Tryz.prog.underlying t = some (.struct fs)) (h : DataW.trod en Tryz.prog W base sp held n t cs = some y) (i : Nat) {f : Field} (hi : fs[i]? = some f) (hf : f.type = 9) : ∃ v : ByteArray, cs[f.offset]? = some (.string v) := by
  obtain ⟨m, z, h1⟩ := field_at ht h i hi
  rw [hf, show Tryz.prog.cellsOf 9 = 1 from by kernel_rfl] at h1
  obtain ⟨v, h2, -⟩ := DataW.trod_string Tryz.underlying9 h1
  exact ⟨v, at_of h2⟩
theorem read_svc {n : Nat} {cs : List Value} {y : DataW H × List MemPlace} (hl : cs.length = 4) (h : DataW.trod en Tryz.prog W base sp held n 32 cs = some y) : ∃ s : Service, cs = enc s := by
  obtain ⟨a0, h0⟩ := string_at Tryz.underlying32 h 0 rfl rfl
  obtain ⟨a1, h1⟩ := int_at Tryz.underlying32 h 1 rfl rfl
  obtain ⟨a2, h2⟩ := int_at Tryz.underlying32 h 2 rfl rfl
  obtain ⟨a3, h3⟩ := int_at Tryz.underlying32 h 3 rfl rfl
  refine ⟨⟨a0, a1, a2, a3⟩, ?_⟩
  clear h
  match cs, hl with
  | [c0, c1, c2, c3], _ =>
    cases h0; cases h1; cases h2; cases h3; rfl
theorem read_wtr {n : Nat} {cs : List Value} {y : DataW H × List MemPlace} (hl : cs.length = 3) (h : DataW.trod en Tryz.prog W base sp held n 34 cs = some y) : ∃ s : Waiter, cs = enc s := by
  obtain ⟨a0, h0⟩ := int_at Tryz.underlying34 h 0 rfl rfl
  obtain ⟨a1, h1⟩ := int_at Tryz.underlying34 h 1 rfl rfl
  obtain ⟨a2, h2⟩ := string_at Tryz.underlying34 h 2 rfl rfl
  refine ⟨⟨a0, a1, a2⟩, ?_⟩
  clear h
  match cs, hl with
  | [c0, c1, c2], _ =>
    cases h0; cases h1; cases h2; rfl
set_option maxRecDepth 100000 in
theorem read_step {n : Nat} {cs : List Value} {y : DataW H × List MemPlace} (hl : cs.length = 12) (h : DataW.trod en Tryz.prog W base sp held n 36 cs = some y) : ∃ s : Step, cs = enc s := by
  obtain ⟨a0, h0⟩ := int_at Tryz.underlying36 h 0 rfl rfl
  obtain ⟨a1, h1⟩ := int_at Tryz.underlying36 h 1 rfl rfl
  obtain ⟨a2, h2⟩ := int_at Tryz.underlying36 h 2 rfl rfl
  obtain ⟨a3, h3⟩ := int_at Tryz.underlying36 h 3 rfl rfl
  obtain ⟨a4, h4⟩ := bool_at Tryz.underlying36 h 4 rfl rfl
  obtain ⟨m5, z5, h5⟩ := field_at Tryz.underlying36 h 5 rfl
  obtain ⟨m6, z6, h6⟩ := field_at Tryz.underlying36 h 6 rfl
  have h5 : DataW.trod en Tryz.prog W base sp held m5 32 ((cs.drop 5).take (Tryz.prog.cellsOf 32)) = some z5 := h5
  have h6 : DataW.trod en Tryz.prog W base sp held m6 34 ((cs.drop 9).take (Tryz.prog.cellsOf 34)) = some z6 := h6
  rw [show Tryz.prog.cellsOf 32 = 4 from by kernel_rfl] at h5
  rw [show Tryz.prog.cellsOf 34 = 3 from by kernel_rfl] at h6
  obtain ⟨⟨s0, s1, s2, s3⟩, h5⟩ := read_svc (by simp; omega) h5
  obtain ⟨⟨w0, w1, w2⟩, h6⟩ := read_wtr (by simp; omega) h6
  refine ⟨⟨a0, a1, a2, a3, a4, ⟨s0, s1, s2, s3⟩, ⟨w0, w1, w2⟩⟩, ?_⟩
  clear h
  match cs, hl with
  | [c0, c1, c2, c3, c4, c5, c6, c7, c8, c9, c10, c11], _ =>
    cases h0; cases h1; cases h2; cases h3; cases h4; cases h5; cases h6; rfl

theorem flat_inv {sz : Nat} : ∀ {rows : List (List Value)}, (∀ r ∈ rows, r.length = sz) → ∀ {j : Nat} {u : Value}, rows.flatten[j]? = some u → ∃ i r row, rows[i]? = some row ∧ row[r]? = some u ∧ j = i * sz + r
  | [], _, j, u, h => by simp at h
  | a :: rows, hl, j, u, h => by
    rw [List.flatten_cons] at h
    by_cases hj : j < a.length
    · rw [List.getElem?_append_left hj] at h
      exact ⟨0, j, a, rfl, h, by omega⟩
    · rw [List.getElem?_append_right (by omega)] at h
      obtain ⟨i, r, row, h1, h2, h3⟩ := flat_inv (fun r hr => hl r (List.mem_cons_of_mem _ hr)) h
      have ha := hl a (List.mem_cons_self ..)
      refine ⟨i + 1, r, row, by simpa using h1, h2, ?_⟩
      rw [Nat.add_mul, Nat.one_mul]; omega
theorem read_steps {n : Nat} {v : Value} {y : DataW H × List MemPlace} (h : DataW.trod en Tryz.prog W base sp held n 22 [v] = some y) : ∃ xs : List Step, RepS (allG W) v 12 (xs.map enc) := by
  have hc : Tryz.prog.cellsOf 36 = 12 := by kernel_rfl
  rcases Deep.open_slice Tryz.underlying22 h with ⟨h0, -⟩ | ⟨a, len, cap, m, k, D, Pl, h0, -, hlc, hcm, hm, -, hel⟩
  · cases h0
    refine ⟨[], ?_⟩
    unfold RepS
    exact ⟨by simp, none, 0, 0, rfl, rfl, by omega, Nat.zero_le _, fun hh => by simp at hh⟩
  · cases h0
    have hlm : len ≤ m := by rw [hm]; split <;> omega
    have hx : ∀ i, i < len → ∃ s : Step, ∀ j u, (enc s)[j]? = some u → W.cell? (a.add (i * 12 + j)) = some u := fun i hi => by
      obtain ⟨cs', h1, h2⟩ := hel i (by omega)
      rw [hc] at h1
      obtain ⟨-, hl, hat⟩ := World.cells?_some h1
      obtain ⟨s, rfl⟩ := read_step hl h2
      refine ⟨s, fun j u hu => ?_⟩
      have hj : j < 12 := by rw [← hl]; exact (List.getElem?_eq_some_iff.1 hu).1
      have := hat j hj
      rw [hu, Go.Deep.add_add] at this
      exact this
    have : ∃ f : Nat → Step, ∀ i, i < len → ∀ j u, (enc (f i))[j]? = some u → W.cell? (a.add (i * 12 + j)) = some u := by
      have dflt : Step := ⟨0, 0, 0, 0, false, default, ⟨0, 0, ⟨#[]⟩⟩⟩
      refine ⟨fun i => if hi : i < len then (hx i hi).choose else dflt, fun i hi => ?_⟩
      simp only [hi, dif_pos]
      exact (hx i hi).choose_spec
    obtain ⟨f, hf⟩ := this
    refine ⟨(List.range len).map f, ?_⟩
    unfold RepS
    refine ⟨fun r hr => ?_, some a, len, cap, rfl, by simp, hlc, hcm, fun hpos => ?_⟩
    · obtain ⟨s, -, rfl⟩ := List.mem_map.1 hr
      rfl
    · have hpos : 0 < len := by simpa using hpos
      have h00 := hf 0 hpos 0 (.int .i64 (f 0).What) rfl
      obtain ⟨g, o, spt⟩ := a
      have h01 : W.cell? ⟨g, o + 0, spt⟩ = some (.int .i64 (f 0).What) := h00
      unfold World.cell? at h01
      cases hg : W.heap[g]? with
      | none => rw [hg] at h01; simp at h01
      | some ob =>
        rw [hg] at h01
        cases ob with
        | cells cur e fr =>
          cases spt with
          | some q => simp at h01
          | none =>
            refine ⟨g, o, cur, e, fr, rfl, hg, fun j u hj => ?_⟩
            obtain ⟨i, r, row, h1, h2, h3⟩ := flat_inv (sz := 12) (rows := ((List.range len).map f).map enc) (fun r hr => by
              obtain ⟨s, -, rfl⟩ := List.mem_map.1 hr
              rfl) hj
            rw [List.getElem?_map, List.getElem?_map] at h1
            have hi : i < len := by
              by_cases hi : i < len
              · exact hi
              · rw [List.getElem?_eq_none (by simpa using hi)] at h1; simp at h1
            rw [List.getElem?_range hi] at h1
            simp only [Option.map_some, Option.some.injEq] at h1
            subst h1
            have h4 : W.cell? ⟨g, o + (i * 12 + r), none⟩ = some u := by
              have h5 := hf i hi r u h2
              rwa [show Addr.add ⟨g, o, none⟩ (i * 12 + r) = ⟨g, o + (i * 12 + r), none⟩ from by
                unfold Addr.add
                by_cases h0 : i * 12 + r = 0
                · rw [if_pos h0, h0]; rfl
                · rw [if_neg h0]] at h5
            unfold World.cell? at h4
            rw [hg] at h4
            rw [h3]
            simpa using h4
        | _ => simp at h01
theorem carry_all (hk : Wd (allG W) S W') : ∀ {ts : List TypeId} {vs : List Value} {ds : List (DataW H)} {ps : List MemPlace}, DataW.TrodAll en Tryz.prog W base sp held ts vs ds ps → (∀ p ∈ ps, p.block < W.heap.size) → DataW.TrodAll en Tryz.prog W' base sp held ts vs ds ps
  | [], [], [], _, h, _ => h
  | _ :: _, _ :: _, _ :: _, _, ⟨p, q, ⟨n, h1⟩, h2, e⟩, hs => ⟨p, q, ⟨n, DataW.trod_carry n _ _ _ h1 fun x hx => by
      have hb := hs x (by rw [e]; exact List.mem_append_left _ hx)
      cases x with
      | cell b off =>
        have h3 : W'.heap[b]? = W.heap[b]? := by
          have h4 : W.heap[b]? = some (W.heap[b]'hb) := Array.getElem?_eq_getElem hb
          rw [h4]; exact hk.imm b _ h4
        show W'.cell? _ = W.cell? _
        unfold World.cell?
        rw [h3]
      | map b =>
        have h4 : W.heap[b]? = some (W.heap[b]'hb) := Array.getElem?_eq_getElem hb
        show W'.heap[b]? = W.heap[b]?
        rw [h4]; exact hk.imm b _ h4⟩, carry_all hk h2 (fun x hx => hs x (by rw [e]; exact List.mem_append_right _ hx)), e⟩
end
theorem own_kids : Kids Tryz.prog (· < Tryz.prog.types.size) := kids_rows (by kernel_rfl) (by kernel_rfl)
theorem own_full : ∀ t e, t < Tryz.prog.types.size → Tryz.prog.underlying t = some (.slice e) → 0 < Tryz.prog.cellsOf e := slices_full_of _ (by kernel_rfl)
end Go.Proofs.YtekdbdhkpolooaaGreat
end
/- Plain law: the name server and its reference go together. -/
section
open Go Mk
namespace Go.Proofs.YtekdbdhkpolooaaGreat
set_option maxHeartbeats 400000
attribute [local irreducible] Calls

theorem strict_eq : ∀ {xs ys : List Service}, xs.Pairwise (fun a b => bLt a.Name b.Name = true) → ys.Pairwise (fun a b => bLt a.Name b.Name = true) → xs.Perm ys → xs = ys
  | [], _, _, _, h => (List.nil_perm.1 h).symm
  | x :: xs, [], _, _, h => absurd h.length_eq (by simp)
  | x :: xs, y :: ys, hx, hy, h => by
    have hxy : x = y := by
      have h1 : x ∈ y :: ys := h.subset (List.mem_cons_self ..)
      have h2 : y ∈ x :: xs := h.symm.subset (List.mem_cons_self ..)
      rcases List.mem_cons.1 h1 with e | e
      · exact e
      · rcases List.mem_cons.1 h2 with e2 | e2
        · exact e2.symm
        · have a1 := (List.pairwise_cons.1 hy).1 x e
          have a2 := (List.pairwise_cons.1 hx).1 y e2
          rw [bLt_asymm a1] at a2; cases a2
    subst hxy
    rw [strict_eq (List.pairwise_cons.1 hx).2 (List.pairwise_cons.1 hy).2 (List.Perm.cons_inv h)]
section
variable {m : List (ByteArray × Service)} {ws : List Waiter} {ss ys : List Service}
theorem sorted_eq (h : Inv m ws) (h1 : Sorted m ys) (h2 : Sorted m ss) : ys = ss := strict_eq (sorted_strict h h1) (sorted_strict h h2) (h1.perm.trans h2.perm.symm)
theorem sorted_len (h2 : Sorted m ss) : ss.length = m.length := by simpa using h2.perm.length_eq
theorem name_uniq (h : Inv m ws) (h2 : Sorted m ss) {u v : Service} (hu : u ∈ ss) (hv : v ∈ ss) (he : u.Name = v.Name) : u = v := by
  obtain ⟨i, hi, rfl⟩ := List.getElem_of_mem hu
  obtain ⟨j, hj, rfl⟩ := List.getElem_of_mem hv
  have hp := List.pairwise_iff_getElem.1 (sorted_strict h h2)
  rcases Nat.lt_trichotomy i j with hlt | e | hlt
  · have := hp i j hi hj hlt; rw [he, bLt_irrefl] at this; cases this
  · subst e; rfl
  · have := hp j i hj hi hlt; rw [he, bLt_irrefl] at this; cases this
theorem rel_get (h : Inv m ws) (h2 : Sorted m ss) (name : ByteArray) : rGet ss name = aGet m name := by
  unfold rGet
  cases hf : ss.findIdx? (isN name) with
  | none =>
    rw [List.findIdx?_eq_none_iff] at hf
    symm
    show aGet m name = none
    rw [aGet_none]
    intro hm
    obtain ⟨s, hs, he⟩ := List.mem_map.1 ((sorted_nd h h2).mem_iff.2 hm)
    have := hf s hs
    simp [isN, he] at this
  | some k =>
    obtain ⟨hk, hp, -⟩ := List.findIdx?_eq_some_iff_getElem.1 hf
    have hn : ss[k].Name = name := by simpa [isN] using hp
    show ss[k]? = _
    rw [List.getElem?_eq_getElem hk]
    have hm : ss[k] ∈ m.map (·.2) := h2.perm.subset (List.getElem_mem hk)
    cases hg : aGet m name with
    | none =>
      obtain ⟨p, hpm, hpe⟩ := List.mem_map.1 hm
      exact absurd (List.mem_map.2 ⟨p, hpm, by rw [h.key p hpm, hpe, hn]⟩) (aGet_none.1 hg)
    | some v =>
      have hv := aGet_mem hg
      have hvs : v ∈ ss := h2.perm.symm.subset (List.mem_map.2 ⟨_, hv, rfl⟩)
      rw [name_uniq h h2 (List.getElem_mem hk) hvs (hn.trans (h.key _ hv))]
theorem get_some {name : ByteArray} : (rGet ss name).isSome = (ss.findIdx? (isN name)).isSome := by
  unfold rGet
  cases hf : ss.findIdx? (isN name) with
  | none => rfl
  | some k => simp [List.getElem?_eq_getElem (findIdx_lt hf)]
theorem rel_regErr (h : Inv m ws) (h2 : Sorted m ss) (v : Service) : rgErr ss v = regErr m v := by
  unfold rgErr regErr
  rw [← get_some, rel_get h h2]
  have h3 := sorted_len h2
  have h4 := h.ml
  by_cases e : m.length = 64
  · rw [if_pos e, if_pos (show 64 ≤ ss.length by omega)]
  · rw [if_neg e, if_neg (show ¬ 64 ≤ ss.length by omega)]
theorem rel_reg (h : Inv m ws) (h2 : Sorted m ss) {v : Service} (hE : regErr m v = 0) {ss' : List Service} (hp : ss'.Perm (ss ++ [v])) (ha : Asc ss') : Sorted (regM m v) ss' := by
  have hg : aGet m v.Name = none := by
    unfold regErr at hE
    cases hg : aGet m v.Name with
    | none => rfl
    | some u =>
      rw [hg] at hE
      split at hE
      · simp at hE
      split at hE
      · simp at hE
      simp at hE
  rw [show regM m v = m ++ [(v.Name, v)] from by unfold regM; rw [if_pos hE, aSet_new hg]]
  refine ⟨?_, ha⟩
  rw [List.map_append]
  exact hp.trans (h2.perm.append_right _)
theorem aDel_filter {a : ByteArray} : ∀ {m : List (ByteArray × Service)}, (m.map (·.1)).Nodup → aDel m a = m.filter fun p => !decide (p.1 = a) := fun {m} hnd => by
  unfold aDel aIx
  cases hf : m.findIdx? (fun p => decide (p.1 = a)) with
  | none =>
    rw [List.findIdx?_eq_none_iff] at hf
    exact (List.filter_eq_self.2 fun p hp => by rw [hf p hp]; rfl).symm
  | some i =>
    rw [List.Nodup, List.pairwise_map] at hnd
    exact erase_filter (p := fun p => decide (p.1 = a)) (hnd.imp fun {x y} hxy hh => hxy (by simp at hh; rw [hh.1, hh.2])) hf
theorem delAll_filter : ∀ {l : List Service} {m : List (ByteArray × Service)}, (m.map (·.1)).Nodup → delAll m l = m.filter fun p => !l.any fun s => decide (p.1 = s.Name)
  | [], m, _ => (List.filter_eq_self.2 fun p hp => by simp).symm
  | x :: l, m, hnd => by
    show delAll (aDel m x.Name) l = _
    rw [delAll_filter (hnd.sublist (aDel_sub.map _)), aDel_filter hnd, List.filter_filter]
    refine List.filter_congr fun p hp => ?_
    rw [List.any_cons, Bool.not_or, Bool.and_comm]
theorem sorted_filter (h : Inv m ws) (h2 : Sorted m ss) (q : ByteArray → Bool) : Sorted (m.filter fun p => q p.1) (ss.filter fun s => q s.Name) := by
  refine ⟨?_, h2.asc.sublist List.filter_sublist⟩
  have h3 := h2.perm.filter (fun s => q s.Name)
  rw [List.filter_map] at h3
  refine h3.trans (List.Perm.of_eq ?_)
  congr 1
  exact List.filter_congr fun p hp => by simp [h.key p hp]
theorem rel_unErr (h : Inv m ws) (h2 : Sorted m ss) (name : ByteArray) (core : Int) : ruErr ss name core = unErr m name core := by
  unfold ruErr unErr; rw [rel_get h h2]; rfl
theorem rel_un (h : Inv m ws) (h2 : Sorted m ss) (name : ByteArray) (core : Int) : Sorted (unM m name core) (ruS ss name core) := by
  unfold unM ruS
  rw [rel_unErr h h2]
  by_cases hE : unErr m name core = 0
  · rw [if_pos hE, if_pos hE]
    cases hf : ss.findIdx? (isN name) with
    | none =>
      have hg : aGet m name = none := by rw [← rel_get h h2]; unfold rGet; rw [hf]; rfl
      unfold unErr at hE; rw [hg] at hE; simp at hE
    | some k =>
      show Sorted _ (ss.eraseIdx k)
      rw [aDel_filter h.nd, erase_filter (p := isN name) ((sorted_strict h h2).imp fun {a b} hab hh => ?_) hf]
      · exact sorted_filter h h2 (fun n => !decide (n = name))
      · simp [isN] at hh; rw [hh.1, hh.2, bLt_irrefl] at hab; cases hab
  · rw [if_neg hE, if_neg hE]; exact h2
theorem rel_lkErr (h : Inv m ws) (h2 : Sorted m ss) (name : ByteArray) : rLkErr ss name = lkErr m name := by
  unfold rLkErr lkErr; rw [rel_get h h2]
theorem rel_awErr (h : Inv m ws) (h2 : Sorted m ss) (x : Waiter) : rawErr ss ws x = awErr m ws x := by
  unfold rawErr awErr
  rw [rel_get h h2]
  have h3 := h.wl
  by_cases e : ws.length = 64
  · simp [e]
  · have : ¬ 64 ≤ ws.length := by omega
    simp [e, this]
theorem rel_aw (h : Inv m ws) (h2 : Sorted m ss) (x : Waiter) : rawW ss ws x = awW m ws x ∧ rawF ss ws x = awF m ws x ∧ rawS ss ws x = awS m ws x := by
  unfold rawW rawF rawS awW awF awS
  rw [rel_awErr h h2, rel_get h h2]
  exact ⟨rfl, rfl, rfl⟩
theorem rel_dep (h : Inv m ws) (h2 : Sorted m ss) (core : Int) : Sorted (delAll m (ss.filter (sCore core))) (ss.filter fun s => !sCore core s) := by
  rw [delAll_filter h.nd]
  have h3 := sorted_filter h h2 (fun n => !(ss.filter (sCore core)).any fun s => decide (n = s.Name))
  rw [show (ss.filter fun s => !sCore core s) = ss.filter fun u => !(ss.filter (sCore core)).any fun s => decide (u.Name = s.Name) from List.filter_congr fun s hs => ?_]
  · exact h3
  · congr 1
    cases hc : sCore core s with
    | true => exact (List.any_eq_true.2 ⟨s, List.mem_filter.2 ⟨hs, hc⟩, by simp⟩).symm
    | false =>
      symm
      rw [List.any_eq_false]
      intro u hu he
      have hu := List.mem_filter.1 hu
      rw [name_uniq h h2 hu.1 hs (of_decide_eq_true he).symm, hc] at hu
      exact absurd hu.2 (by simp)
end
def ValM (m : List (ByteArray × Service)) : Prop := ∀ p ∈ m, nameS p.2.Name = true ∧ badNums p.2 = false
theorem val_nil : ValM [] := fun _ h => by simp at h
theorem val_sub {m m' : List (ByteArray × Service)} (h : ValM m) (hs : m'.Sublist m) : ValM m' := fun p hp => h p (hs.subset hp)
theorem regErr_ok {m : List (ByteArray × Service)} {v : Service} (hE : regErr m v = 0) : nameS v.Name = true ∧ badNums v = false ∧ aGet m v.Name = none := by
  unfold regErr at hE
  split at hE
  · simp at hE
  split at hE
  · simp at hE
  rename_i h1 h2
  refine ⟨by simpa using h1, by simpa using h2, ?_⟩
  cases hg : aGet m v.Name with
  | none => rfl
  | some u => rw [hg] at hE; simp at hE
theorem val_reg {m : List (ByteArray × Service)} (h : ValM m) (v : Service) : ValM (regM m v) := by
  unfold regM; split
  · rename_i hE
    obtain ⟨h1, h2, h3⟩ := regErr_ok hE
    rw [aSet_new h3]
    intro p hp
    rcases List.mem_append.1 hp with hp | hp
    · exact h p hp
    · simp at hp; subst hp; exact ⟨h1, h2⟩
  · exact h
theorem val_un {m : List (ByteArray × Service)} (h : ValM m) (name : ByteArray) (core : Int) : ValM (unM m name core) := by
  unfold unM; split
  · exact val_sub h aDel_sub
  · exact h
theorem val_dep {m : List (ByteArray × Service)} (h : ValM m) (l : List Service) : ValM (delAll m l) := val_sub h (delAll_sub _ _)
end Go.Proofs.YtekdbdhkpolooaaGreat
end
