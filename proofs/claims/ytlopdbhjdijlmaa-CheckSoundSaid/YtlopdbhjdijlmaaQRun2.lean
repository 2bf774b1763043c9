/-
  fmt2.number and fmt2.run: contracts. No condition.
-/
import Derived.Test.YtlopdbhjdijlmaaQApp
import Derived.Test.YtlopdbhjdijlmaaQNeed2

namespace Go.Proofs.Ytlopdbhjdijlmaa
open Go.ChangeShapes Go.WideShapes Go.ChangeAt Go.RowKit
set_option linter.unusedSimpArgs false
set_option linter.unusedVariables false

def numI (x : Int) : Nat := if 256 ≤ x then 0 else x.toNat
theorem numI_lt (x : Int) : numI x < 256 := by unfold numI; split <;> omega
theorem number2_any (x : Int) (h0 : 0 ≤ x) (h1 : x < 18446744073709551616) (w : World) :
    Calls Try.prog 122 #[.int .u64 x] w fun e w' => e = .returned (.int .i64 (numI x : Nat)) ∧ w = w' := by
  unfold numI
  by_cases h : 256 ≤ x
  · rw [if_pos h]
    go_enter Try.func122, Try.ntmps122
    go_wp2
    go_ret
    exact ⟨rfl, rfl⟩
  · rw [if_neg h]
    obtain ⟨n, rfl⟩ := Int.eq_ofNat_of_zero_le h0
    have h' : (n : Int) < 256 := by omega
    go_enter Try.func122, Try.ntmps122
    go_wp2
    go_ret
    exact ⟨by simp, rfl⟩

/-- A run's first place, its first block, how many. -/
def rA (x : Int) : Nat := (x / 4294967296).toNat
def rB (x : Int) : Nat := (x / 256 % 16777216).toNat
def rN (x : Int) : Nat := (x % 256).toNat
def RunOk (x : Int) : Prop := rA x + rN x ≤ 13 ∧ 1 ≤ rB x ∧ rB x + rN x ≤ 256 ∧ 1 ≤ rN x
def runTo (l : List Int) (A B : Nat) : Nat → List Int
  | 0 => l
  | k + 1 => (runTo l A B k).set (A + k) ((B + k : Nat) : Int)
def runSet (l : List Int) (x : Int) : List Int := runTo l (rA x) (rB x) (rN x)

theorem u64_mask24 (x : Int) (h0 : 0 ≤ x) (h1 : x < 18446744073709551616) : bits .and .u64 x 16777215 = x % 16777216 := by
  rw [u64_and x 16777215 h0 h1 (by omega) (by omega)]
  have : (16777215 : Int).toNat = 2 ^ 24 - 1 := rfl
  rw [this, Nat.and_two_pow_sub_one_eq_mod]
  omega
theorem u64_mask8' (x : Int) (h0 : 0 ≤ x) (h1 : x < 18446744073709551616) : bits .and .u64 x 255 = x % 256 := by
  rw [u64_and x 255 h0 h1 (by omega) (by omega)]
  have : (255 : Int).toNat = 2 ^ 8 - 1 := rfl
  rw [this, Nat.and_two_pow_sub_one_eq_mod]
  omega

open Classical in
noncomputable def runB (x : Int) : Bool := decide (RunOk x)
open Classical in
theorem runB_iff (x : Int) : runB x = true ↔ RunOk x := by unfold runB; exact decide_eq_true_iff
open Classical in
theorem runB_false {x : Int} (h : ¬ RunOk x) : runB x = false := by unfold runB; exact decide_eq_false h

set_option maxRecDepth 20000 in
set_option maxHeartbeats 2000000 in
theorem run2_any {w : World} {X : Nat} {l : List Int} (h : Arr13 w X l) (x : Int) (h0 : 0 ≤ x) (h1 : x < 18446744073709551616) :
    Calls Try.prog 123 #[.pointer (some ⟨X, 0, none⟩), .int .u64 x] w fun e w' => e = .returned (.bool (runB x)) ∧ Arr13 w' X (if runB x = true then runSet l x else l) ∧ Mod (fun b => b = X) w w' := by
  have HA := Lib.hid h
  have hm24 := u64_mask24 (x / 256) (by omega) (by omega)
  have hm8 := u64_mask8' x h0 h1
  obtain ⟨A, hA⟩ : ∃ A, A = rA x := ⟨_, rfl⟩
  obtain ⟨B, hB⟩ : ∃ B, B = rB x := ⟨_, rfl⟩
  obtain ⟨N, hN⟩ : ∃ N, N = rN x := ⟨_, rfl⟩
  have eA : x / 4294967296 = (A : Int) := by rw [hA]; unfold rA; omega
  have eB : x / 256 % 16777216 = (B : Int) := by rw [hB]; unfold rB; omega
  have eN : x % 256 = (N : Int) := by rw [hN]; unfold rN; omega
  have hA2 : (A : Int) < 4294967296 := by omega
  have hB2 : (B : Int) < 16777216 := by omega
  have hN2 : (N : Int) < 256 := by omega
  rw [eB] at hm24
  rw [eN] at hm8
  have hok : RunOk x ↔ A + N ≤ 13 ∧ 1 ≤ B ∧ B + N ≤ 256 ∧ 1 ≤ N := by unfold RunOk; rw [← hA, ← hB, ← hN]
  have HOK := Lib.hid hok
  have HRS : Hid (runSet l x = runTo l A B N) := by unfold Hid runSet; rw [← hA, ← hB, ← hN]
  have HE := Lib.hid (And.intro eB eN)
  clear h hA hB hN eB eN hok
  by_cases hr : A + N ≤ 13 ∧ 1 ≤ B ∧ B + N ≤ 256 ∧ 1 ≤ N
  · have hrb : runB x = true := (runB_iff x).2 (HOK.out.2 hr)
    obtain ⟨c1, c2, c3, c4⟩ := hr
    rw [hrb, if_pos rfl, HRS.out]
    have d1 : ¬ (13 : Int) < (A : Int) + (N : Int) := by omega
    have d2 : ¬ (B : Int) < 1 := by omega
    have d3 : ¬ (256 : Int) < (B : Int) + (N : Int) := by omega
    have d4 : ¬ (N : Int) < 1 := by omega
    clear hrb
    go_enter Try.func123, Try.ntmps123
    go_wp2_with fail
    go_loopg [8, 35] N (fun gk _ iv wr => ∃ k : Nat, k + gk = N ∧ iv = .int .u64 k ∧ Hid (Arr13 wr X (runTo l A B k)) ∧ Hid (Mod (fun b => b = X) w wr))
    case atStart => exact ⟨0, by omega, rfl, HA.out, Mod.refl _ _⟩
    case round =>
      obtain ⟨k, hk, rfl, HK, HM⟩ := hrel
      have hk0 : (0 : Int) ≤ (k : Int) := Int.natCast_nonneg _
      by_cases hlt : k < N
      · have hki : (k : Int) < (N : Int) := by omega
        obtain ⟨q, hq⟩ : ∃ q, q = A + k := ⟨_, rfl⟩
        have hqi : (A : Int) + (k : Int) = (q : Int) := by omega
        have hq13 : (q : Int) < 13 := by omega
        obtain ⟨y, hy⟩ : ∃ y, y = B + k := ⟨_, rfl⟩
        have hyi : (B : Int) + (k : Int) = (y : Int) := by omega
        have hy256 : (y : Int) < 512 := by omega
        have e1 := HK.out.cell q (by omega)
        have f1 := HK.out.frozen q
        have hset := HK.out.set q ((y : Nat) : Int)
        have hsu : runTo l A B (k + 1) = (runTo l A B k).set q ((y : Nat) : Int) := by rw [hq, hy]; rfl
        rw [← hsu] at hset
        have HSET := Lib.hid hset
        clear hset hsu hq hy
        generalize (runTo l A B k).getD q 0 = z at *
        go_wp2_with fail
        go_roundg (gk - 1)
        case measure => omega
        case rel => exact ⟨k + 1, by omega, by go_num, HSET.out, HM.out.setCell (a := ⟨X, q, none⟩) (.inl rfl) _⟩
      · have hge : ¬ (k : Int) < (N : Int) := by omega
        obtain rfl : k = N := by omega
        go_wp2_with fail
        go_ret
        exact ⟨rfl, HK.out, HM.out⟩
  · have hrb : runB x = false := runB_false (fun hh => hr (HOK.out.1 hh))
    rw [hrb, if_neg (by simp)]
    rcases (show 13 < A + N ∨ (A + N ≤ 13 ∧ B < 1) ∨ (A + N ≤ 13 ∧ 1 ≤ B ∧ 256 < B + N) ∨ (A + N ≤ 13 ∧ 1 ≤ B ∧ B + N ≤ 256 ∧ N < 1) by omega) with c | ⟨c1, c2⟩ | ⟨c1, c2, c3⟩ | ⟨c1, c2, c3, c4⟩
    · have d1 : (13 : Int) < (A : Int) + (N : Int) := by omega
      clear hr hrb
      go_enter Try.func123, Try.ntmps123
      go_wp2_with fail
      go_ret
      exact ⟨rfl, HA.out, Mod.refl _ _⟩
    · have d1 : ¬ (13 : Int) < (A : Int) + (N : Int) := by omega
      have d2 : (B : Int) < 1 := by omega
      clear hr hrb
      go_enter Try.func123, Try.ntmps123
      go_wp2_with fail
      go_ret
      exact ⟨rfl, HA.out, Mod.refl _ _⟩
    · have d1 : ¬ (13 : Int) < (A : Int) + (N : Int) := by omega
      have d2 : ¬ (B : Int) < 1 := by omega
      have d3 : (256 : Int) < (B : Int) + (N : Int) := by omega
      clear hr hrb
      go_enter Try.func123, Try.ntmps123
      go_wp2_with fail
      go_ret
      exact ⟨rfl, HA.out, Mod.refl _ _⟩
    · have d1 : ¬ (13 : Int) < (A : Int) + (N : Int) := by omega
      have d2 : ¬ (B : Int) < 1 := by omega
      have d3 : ¬ (256 : Int) < (B : Int) + (N : Int) := by omega
      have d4 : (N : Int) < 1 := by omega
      clear hr hrb
      go_enter Try.func123, Try.ntmps123
      go_wp2_with fail
      go_ret
      exact ⟨rfl, HA.out, Mod.refl _ _⟩
end Go.Proofs.Ytlopdbhjdijlmaa
