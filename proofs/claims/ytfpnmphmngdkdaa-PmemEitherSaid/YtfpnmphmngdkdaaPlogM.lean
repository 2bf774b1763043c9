/-
  A journal, as plain functions over a memory that may last. No program here.
-/
import Derived.Test.YtfpnmphmngdkdaaPmM
namespace Go.Proofs.Ytfpnmphmngdkdaa
set_option linter.unusedVariables false

def Pm.storeAll (S : Pm) : List (Int × Int) → Pm × Int
  | [] => (S, 0)
  | x :: l => if S.may x.1 = 0 then (S.store x.1 x.2).storeAll l else (S, S.may x.1)

def inc (f : Int → Nat) (z : Int) : Int → Nat := fun y => if y = z then f z + 1 else f y

def Pm.flushAll (S : Pm) (f : Int → Nat) : List (Int × Int) → Pm × Int
  | [] => (S, 0)
  | x :: l => if 0 < f (x.1 / 8) then S.flushAll (inc f (x.1 / 8)) l else if S.may x.1 = 0 then (S.flush x.1).flushAll (inc f (x.1 / 8)) l else (S, S.may x.1)

def Pm.fenceR (S : Pm) : Pm × Int := (S.fence, S.fenceE)

def Pm.flushes (S : Pm) (l : List (Int × Int)) : Pm × Int :=
  if (S.flushAll (fun _ => 0) l).2 = 0 then (S.flushAll (fun _ => 0) l).1.fenceR else S.flushAll (fun _ => 0) l

def Pm.write (S : Pm) (l : List (Int × Int)) : Pm × Int :=
  if (S.storeAll l).2 = 0 then (S.storeAll l).1.flushes l else S.storeAll l

theorem inc_le {f : Int → Nat} {k : Nat} (h : ∀ z, f z ≤ k) (z : Int) : ∀ y, inc f z y ≤ k + 1 := by
  intro y
  unfold inc
  split
  · have := h z; omega
  · have := h y; omega

theorem Pm.store_n (S : Pm) (i v : Int) : (S.store i v).n = S.n := by unfold Pm.store; split <;> rfl
theorem Pm.flush_n (S : Pm) (i : Int) : (S.flush i).n = S.n := by unfold Pm.flush; split <;> rfl
theorem Pm.fence_n (S : Pm) : S.fence.n = S.n := by unfold Pm.fence; split <;> rfl
theorem Pm.store_deeds (S : Pm) (i v : Int) : (S.store i v).deeds ≤ S.deeds + 1 := by
  unfold Pm.store
  split
  · exact Nat.le_refl _
  · omega
theorem Pm.flush_deeds (S : Pm) (i : Int) : (S.flush i).deeds ≤ S.deeds + 1 := by
  unfold Pm.flush
  split
  · exact Nat.le_refl _
  · omega
theorem Pm.fence_deeds (S : Pm) : S.fence.deeds ≤ S.deeds + 1 := by
  unfold Pm.fence
  split
  · omega
  · exact Nat.le_refl _

theorem Pm.storeAll_n (l : List (Int × Int)) : ∀ S : Pm, (S.storeAll l).1.n = S.n := by
  induction l with
  | nil => intro S; rfl
  | cons x l ih =>
    intro S
    simp only [Pm.storeAll]
    split
    · rw [ih, Pm.store_n]
    · rfl

theorem Pm.storeAll_in (l : List (Int × Int)) : ∀ S : Pm, (S.storeAll l).2 = 0 → ∀ x ∈ l, 0 ≤ x.1 ∧ x.1 < S.n := by
  induction l with
  | nil => intro S _ x hx; cases hx
  | cons y l ih =>
    intro S h x hx
    simp only [Pm.storeAll] at h
    split at h
    · rename_i hm
      have h0 := Pm.may_ok hm
      rcases List.mem_cons.1 hx with rfl | hx
      · exact ⟨h0.1, h0.2.1⟩
      · have := ih _ h x hx
        rw [Pm.store_n] at this
        exact this
    · rename_i hm
      exact absurd h hm

theorem Pm.storeAll_deeds (l : List (Int × Int)) : ∀ S : Pm, (S.storeAll l).1.deeds ≤ S.deeds + l.length := by
  induction l with
  | nil => intro S; exact Nat.le_refl _
  | cons x l ih =>
    intro S
    simp only [Pm.storeAll, List.length_cons]
    split
    · have h1 := ih (S.store x.1 x.2)
      have h2 := S.store_deeds x.1 x.2
      omega
    · simp only; omega

theorem Pm.flushAll_deeds (l : List (Int × Int)) : ∀ (S : Pm) (f : Int → Nat), (S.flushAll f l).1.deeds ≤ S.deeds + l.length := by
  induction l with
  | nil => intro S f; exact Nat.le_refl _
  | cons x l ih =>
    intro S f
    simp only [Pm.flushAll, List.length_cons]
    split
    · have h1 := ih S (inc f (x.1 / 8)); omega
    · split
      · have h1 := ih (S.flush x.1) (inc f (x.1 / 8))
        have h2 := S.flush_deeds x.1
        omega
      · simp only; omega

theorem Pm.write_deeds (S : Pm) (l : List (Int × Int)) : (S.write l).1.deeds ≤ S.deeds + 2 * l.length + 1 := by
  have h1 := Pm.storeAll_deeds l S
  have h2 := Pm.flushAll_deeds l (S.storeAll l).1 (fun _ => 0)
  unfold Pm.write Pm.flushes
  split
  · split
    · have h3 := ((S.storeAll l).1.flushAll (fun _ => 0) l).1.fence_deeds
      simp only [Pm.fenceR]
      omega
    · omega
  · omega

/-- Pairs' words. -/
def pairWords (l : List (Int × Int)) : List Int := l.flatMap fun x => [x.1, x.2]
def asPairsL (at_ : Int) (l : List Int) : List (Int × Int) := (List.range l.length).map fun (i : Nat) => (at_ + (i : Int), l.getD i 0)
def placeB (i : Int) : Bool := decide (0 ≤ i ∧ i < 3128 ∧ (i < 8 ∨ 816 ≤ i))
def goodP (l : List (Int × Int)) : Bool := decide (l.length ≤ 400) && l.all fun x => placeB x.1
end Go.Proofs.Ytfpnmphmngdkdaa
