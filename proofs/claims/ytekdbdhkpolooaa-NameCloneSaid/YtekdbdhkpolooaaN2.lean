/- The data of the name server, and the search for a waiter. -/
import Derived.Test.YtekdbdhkpolooaaN1
open Go Mk
namespace Go.Proofs.Ytekdbdhkpolooaa
attribute [local irreducible] Calls

structure Waiter where
  Token : Int
  Core : Int
  Name : ByteArray
  deriving DecidableEq, Inhabited
instance : GoT Waiter where
  enc a := [.int .i64 a.Token, .int .i64 a.Core, .string a.Name]
  inj a b h := by cases a; cases b; simp at h; simp [h]
  ks := [5, 5, 1]
  kinds a := rfl
structure Service where
  Name : ByteArray
  Core : Int
  Object : Int
  Kind : Int
  deriving DecidableEq
instance : Inhabited Service := ⟨⟨⟨#[]⟩, 0, 0, 0⟩⟩
instance : GoT Service where
  enc a := [.string a.Name, .int .i64 a.Core, .int .i64 a.Object, .int .i64 a.Kind]
  inj a b h := by cases a; cases b; simp at h; simp [h]
  ks := [1, 5, 5, 5]
  kinds a := rfl
structure Found where
  Token : Int
  Core : Int
  Service : Service
  deriving DecidableEq, Inhabited
instance : GoT Found where
  enc a := [.int .i64 a.Token, .int .i64 a.Core, .string a.Service.Name, .int .i64 a.Service.Core, .int .i64 a.Service.Object, .int .i64 a.Service.Kind]
  inj a b h := by cases a with | mk a1 a2 a3 => cases b with | mk b1 b2 b3 => cases a3; cases b3; simp at h; simp [h]
  ks := [5, 5, 1, 5, 5, 5]
  kinds a := rfl
def svcV (s : Service) : Value := .agg (enc s).toArray

/-- What slices.IndexFunc answers. -/
def ixZ (o : Option Nat) : Int := match o with | some i => i | none => -1

theorem findIdx_at {α : Type} {p : α → Bool} {l : List α} {k : Nat} {x : α} (h : l[k]? = some x) (hp : p x = true) (hi : ∀ i y, i < k → l[i]? = some y → p y = false) : l.findIdx? p = some k := by
  obtain ⟨hk, rfl⟩ := List.getElem?_eq_some_iff.1 h
  rw [List.findIdx?_eq_some_iff_getElem]
  exact ⟨hk, hp, fun j hj => by have := hi j _ hj (List.getElem?_eq_getElem (by omega)); simp [this]⟩

/-- SS k: what is owned when the predicate has been asked k times; it may note what it is asked. -/
theorem IndexFunc_st (SS : Nat → List Res) (Γ : Gho) (w : World) (va : Value) (xs : List Waiter) (f : Nat) (fst cap : List Value) (p : Waiter → Bool) [FnOk Try.prog f] (hw : Wd Γ (SS 0) w) (ha : ∀ k, RdS Γ (SS k) va 3 (xs.map enc))
    (hp : ∀ k x w, xs[k]? = some x → Wd Γ (SS k) w → Calls Try.prog f (fst ++ [Value.agg (enc x).toArray] ++ cap).toArray w fun e w' => e = .returned (.bool (p x)) ∧ Wd Γ (SS (k + 1)) w') :
    Calls Try.prog 47 #[va, .func (.func f) fst.toArray cap.toArray] w fun e w' => e = .returned (.int .i64 (ixZ (xs.findIdx? p))) ∧ Wd Γ (SS (match xs.findIdx? p with | some k => k + 1 | none => xs.length)) w' := by
  obtain ⟨a, n, c, rfl, hn, hnc, hc⟩ := (ha 0).shape
  simp only [List.length_map] at hn
  refine calls_of_W Try.func47 rfl rfl ?_
  repeat (first | (first | refine W_seq ?_ | refine W_block ?_ | refine W_region ?_ | refine W_skip ?_ | refine W_ret ?_ | refine W_exit ?_) | (first | refine L_nil ?_ | (apply L_plain; first | (apply L_go; refine lP ?_) | (apply L_mf; refine lMakeFunc ?_) | refine lY ?_) | (apply L_guarded; first | refine lGT ?_ | refine lGF ?_ | (apply L_go; refine lPG ?_) | refine lG ?_)))
  refine W_loop (fun μ ρ w => ∃ k : Nat, μ + k = n ∧ Has ρ [(0, .slice a n c), (1, .func (.func f) fst.toArray cap.toArray), (7, .int .i64 n), (8, .int .i64 k)] ∧ Wd Γ (SS k) w ∧ ∀ i x, i < k → xs[i]? = some x → p x = false) n ⟨0, by omega, ⟨rfl, rfl, rfl, rfl, trivial⟩, hw, fun i x h => absurd h (Nat.not_lt_zero i)⟩ ?_
  rintro μ ρ w ⟨k, hk, hρ, hw, hi⟩
  rw [hρ.eq]
  have hr := ha k
  repeat (first | (first | refine W_seq ?_ | refine W_block ?_ | refine W_region ?_ | refine W_skip ?_ | refine W_ret ?_ | refine W_exit ?_) | (first | refine L_nil ?_ | (apply L_plain; first | (apply L_go; refine lP ?_) | (apply L_mf; refine lMakeFunc ?_) | refine lY ?_) | (apply L_guarded; first | refine lGT ?_ | refine lGF ?_ | (apply L_go; refine lPG ?_) | refine lG ?_)))
  refine W_cond rfl (fun h => ?_) (fun h => ?_)
  · have hkn : k < n := by simpa using h
    obtain ⟨x, hx⟩ := get_lt (l := xs) (k := k) (by omega)
    repeat (first | (first | refine W_seq ?_ | refine W_block ?_ | refine W_region ?_ | refine W_skip ?_ | refine W_ret ?_ | refine W_exit ?_) | (first | refine L_nil ?_ | (apply L_plain; first | (apply L_go; refine lP ?_) | (apply L_mf; refine lMakeFunc ?_) | refine lY ?_) | (apply L_guarded; first | refine lGT ?_ | refine lGF ?_ | (apply L_go; refine lPG ?_) | refine lG ?_)))
    refine lCallv ?_
    refine (hp k x _ hx hw).mono ?_
    rintro e w ⟨rfl, hw⟩
    refine ⟨_, rfl, ?_⟩
    repeat (first | (first | refine W_seq ?_ | refine W_block ?_ | refine W_region ?_ | refine W_skip ?_ | refine W_ret ?_ | refine W_exit ?_) | (first | refine L_nil ?_ | (apply L_plain; first | (apply L_go; refine lP ?_) | (apply L_mf; refine lMakeFunc ?_) | refine lY ?_) | (apply L_guarded; first | refine lGT ?_ | refine lGF ?_ | (apply L_go; refine lPG ?_) | refine lG ?_)))
    refine W_cond rfl (fun h2 => ?_) (fun h2 => ?_)
    · repeat (first | (first | refine W_seq ?_ | refine W_block ?_ | refine W_region ?_ | refine W_skip ?_ | refine W_ret ?_ | refine W_exit ?_) | (first | refine L_nil ?_ | (apply L_plain; first | (apply L_go; refine lP ?_) | (apply L_mf; refine lMakeFunc ?_) | refine lY ?_) | (apply L_guarded; first | refine lGT ?_ | refine lGF ?_ | (apply L_go; refine lPG ?_) | refine lG ?_)))
      have hf := findIdx_at hx h2 hi
      rw [hf]
      exact ⟨_, rfl, ret_i rfl rfl, hw⟩
    · repeat (first | (first | refine W_seq ?_ | refine W_block ?_ | refine W_region ?_ | refine W_skip ?_ | refine W_ret ?_ | refine W_exit ?_) | (first | refine L_nil ?_ | (apply L_plain; first | (apply L_go; refine lP ?_) | (apply L_mf; refine lMakeFunc ?_) | refine lY ?_) | (apply L_guarded; first | refine lGT ?_ | refine lGF ?_ | (apply L_go; refine lPG ?_) | refine lG ?_)))
      refine ⟨μ - 1, by omega, k + 1, by omega, ⟨rfl, rfl, rfl, rfl, trivial⟩, hw, fun i y hi' hy => ?_⟩
      by_cases e : i = k
      · subst e; rw [hx] at hy; cases hy; exact h2
      · exact hi i y (by omega) hy
  · repeat (first | (first | refine W_seq ?_ | refine W_block ?_ | refine W_region ?_ | refine W_skip ?_ | refine W_ret ?_ | refine W_exit ?_) | (first | refine L_nil ?_ | (apply L_plain; first | (apply L_go; refine lP ?_) | (apply L_mf; refine lMakeFunc ?_) | refine lY ?_) | (apply L_guarded; first | refine lGT ?_ | refine lGF ?_ | (apply L_go; refine lPG ?_) | refine lG ?_)))
    have hkn : ¬ k < n := by simpa using h
    have hf : xs.findIdx? p = none := List.findIdx?_eq_none_iff.2 (fun x hx => by
      obtain ⟨i, hil, rfl⟩ := List.getElem_of_mem hx
      exact hi i _ (by omega) (List.getElem?_eq_getElem hil))
    rw [hf]
    refine ⟨_, rfl, ret_i rfl rfl, ?_⟩
    have : k = xs.length := by omega
    rw [this] at hw; exact hw
theorem IndexFunc_any (Γ : Gho) (S : List Res) (w : World) (va : Value) (xs : List Waiter) (f : Nat) (fst cap : List Value) (p : Waiter → Bool) [FnOk Try.prog f] (hw : Wd Γ S w) (ha : RdS Γ S va 3 (xs.map enc))
    (hp : ∀ x w, Wd Γ S w → Calls Try.prog f (fst ++ [Value.agg (enc x).toArray] ++ cap).toArray w fun e w' => e = .returned (.bool (p x)) ∧ Wd Γ S w') :
    Calls Try.prog 47 #[va, .func (.func f) fst.toArray cap.toArray] w fun e w' => e = .returned (.int .i64 (ixZ (xs.findIdx? p))) ∧ Wd Γ S w' :=
  IndexFunc_st (fun _ => S) Γ w va xs f fst cap p hw (fun _ => ha) (fun _ x w _ hw => hp x w hw)

def isW (token core : Int) (x : Waiter) : Bool := decide (x.Token = token) && decide (x.Core = core)
theorem waiter1_any (Γ : Gho) (S : List Res) (w : World) (bt bc : Nat) (token core : Int) (x : Waiter) (hw : Wd Γ (.blk bc (.cells #[.int .i64 core] 3) :: .blk bt (.cells #[.int .i64 token] 3) :: S) w) :
    Calls Try.prog 48 #[.agg (enc x).toArray, .pointer (some ⟨bt, 0, none⟩), .pointer (some ⟨bc, 0, none⟩)] w fun e w' => e = .returned (.bool (isW token core x)) ∧ Wd Γ (.blk bc (.cells #[.int .i64 core] 3) :: .blk bt (.cells #[.int .i64 token] 3) :: S) w' := by
  refine calls_of_W Try.func48 rfl rfl ?_
  repeat (first | (first | refine W_seq ?_ | refine W_block ?_ | refine W_region ?_ | refine W_skip ?_ | refine W_ret ?_ | refine W_exit ?_) | (first | refine L_nil ?_ | (apply L_plain; first | (apply L_go; refine lP ?_) | (apply L_mf; refine lMakeFunc ?_) | refine lY ?_) | (apply L_guarded; first | refine lGT ?_ | refine lGF ?_ | (apply L_go; refine lPG ?_) | refine lG ?_)))
  refine lBox ?_
  intro b w hw
  repeat (first | (first | refine W_seq ?_ | refine W_block ?_ | refine W_region ?_ | refine W_skip ?_ | refine W_ret ?_ | refine W_exit ?_) | (first | refine L_nil ?_ | (apply L_plain; first | (apply L_go; refine lP ?_) | (apply L_mf; refine lMakeFunc ?_) | refine lY ?_) | (apply L_guarded; first | refine lGT ?_ | refine lGF ?_ | (apply L_go; refine lPG ?_) | refine lG ?_)))
  exact ⟨_, rfl, rfl, hw.drop⟩

/-- A name server in memory: the pointer b, its map and its slice. -/
def srvL (b bm : Nat) (vs : Value) (m : List (ByteArray × Service)) (ws : List Waiter) : List Res := [.blk b (.cells #[.map (some bm), vs] 64), Res.ms svcV bm m, .own vs 35 3 (ws.map enc)]

theorem waiter_any (Γ : Gho) (S : List Res) (w : World) (b bm : Nat) (vs : Value) (m : List (ByteArray × Service)) (ws : List Waiter) (token core : Int) (hw : Wd Γ (srvL b bm vs m ws ++ S) w) :
    Calls Try.prog 28 #[.pointer (some ⟨b, 0, none⟩), .int .i64 token, .int .i64 core] w fun e w' => e = .returned (.int .i64 (ixZ (ws.findIdx? (isW token core)))) ∧ Wd Γ (srvL b bm vs m ws ++ S) w' := by
  unfold srvL at *
  refine calls_of_W Try.func28 rfl rfl ?_
  repeat (first | (first | refine W_seq ?_ | refine W_block ?_ | refine W_region ?_ | refine W_skip ?_ | refine W_ret ?_ | refine W_exit ?_) | (first | refine L_nil ?_ | (apply L_plain; first | (apply L_go; refine lP ?_) | (apply L_mf; refine lMakeFunc ?_) | refine lY ?_) | (apply L_guarded; first | refine lGT ?_ | refine lGF ?_ | (apply L_go; refine lPG ?_) | refine lG ?_)))
  refine lBox ?_
  intro bt w hw
  refine lBox ?_
  intro bc w hw
  repeat (first | (first | refine W_seq ?_ | refine W_block ?_ | refine W_region ?_ | refine W_skip ?_ | refine W_ret ?_ | refine W_exit ?_) | (first | refine L_nil ?_ | (apply L_plain; first | (apply L_go; refine lP ?_) | (apply L_mf; refine lMakeFunc ?_) | refine lY ?_) | (apply L_guarded; first | refine lGT ?_ | refine lGF ?_ | (apply L_go; refine lPG ?_) | refine lG ?_)))
  refine lCall ?_
  refine (IndexFunc_any Γ _ w _ ws 48 [] [.pointer (some ⟨bt, 0, none⟩), .pointer (some ⟨bc, 0, none⟩)] (isW token core) hw (RdS.own (i := 4) hw rfl) (fun x w hw => waiter1_any Γ _ w bt bc token core x hw)).mono ?_
  rintro e w ⟨rfl, hw⟩
  refine ⟨_, rfl, ?_⟩
  repeat (first | (first | refine W_seq ?_ | refine W_block ?_ | refine W_region ?_ | refine W_skip ?_ | refine W_ret ?_ | refine W_exit ?_) | (first | refine L_nil ?_ | (apply L_plain; first | (apply L_go; refine lP ?_) | (apply L_mf; refine lMakeFunc ?_) | refine lY ?_) | (apply L_guarded; first | refine lGT ?_ | refine lGF ?_ | (apply L_go; refine lPG ?_) | refine lG ?_)))
  exact ⟨_, rfl, rfl, hw.drop.drop⟩
end Go.Proofs.Ytekdbdhkpolooaa
