/-
  What is flushed and fenced stays in a crash: plain.
-/
import Derived.Test.YtfpnmphmngdkdaaPmemSizesM
import Derived.Test.YtfpnmphmngdkdaaPmCrashM
import Derived.Test.YtfpnmphmngdkdaaPlogM
namespace Go.Proofs.Ytfpnmphmngdkdaa
set_option linter.unusedVariables false

/-- The power stays, and no fuse is laid. -/
structure Pm.Still (S : Pm) (n : Nat) : Prop where
  n : S.n = n
  fuse : S.fuse = -1
  gone : S.gone = false

theorem Pm.Still.may {S : Pm} {n : Nat} (h : S.Still n) (i : Int) : S.may i = if i < 0 ∨ (n : Int) ≤ i then 1 else 0 := by
  unfold Pm.may
  rw [h.gone, h.n]
  rfl

theorem Pm.Still.may_in {S : Pm} {n : Nat} (h : S.Still n) (k : Nat) (hk : k < n) : S.may (k : Int) = 0 := by
  rw [h.may, if_neg (by omega)]

theorem Pm.Still.deed {S : Pm} {n : Nat} (h : S.Still n) : S.deed.Still n := by
  refine ⟨h.n, ?_, ?_⟩
  · unfold Pm.deed
    simp only
    rw [if_neg (by rw [h.fuse]; decide), h.fuse]
  · unfold Pm.deed
    simp only
    rw [if_neg (by rw [h.fuse]; decide), h.gone]

theorem Pm.Still.store {S : Pm} {n : Nat} (h : S.Still n) (i v : Int) : (S.store i v).Still n := by
  unfold Pm.store
  split
  · exact Pm.Still.deed ⟨h.n, h.fuse, h.gone⟩
  · exact h

theorem Pm.Still.flush {S : Pm} {n : Nat} (h : S.Still n) (i : Int) : (S.flush i).Still n := by
  unfold Pm.flush
  split
  · exact Pm.Still.deed ⟨h.n, h.fuse, h.gone⟩
  · exact h

theorem Pm.Still.fence {S : Pm} {n : Nat} (h : S.Still n) : S.fence.Still n := by
  unfold Pm.fence
  split
  · exact h
  · exact Pm.Still.deed ⟨h.n, h.fuse, h.gone⟩

theorem Pm.Still.crash {S : Pm} {n : Nat} (h : S.Still n) (keep : List Nat) : (S.crash keep).Still n := ⟨h.n, rfl, rfl⟩

theorem Pm.Still.new (n : Nat) (h : n ≤ 10000) : (Pm.new (List.replicate n 0)).Still n := ⟨new_n n h, rfl, rfl⟩

/-- A word that lasts. -/
def Pm.Fast (S : Pm) (k : Nat) (x : Int) : Prop := S.now k = x ∧ S.old k = none

theorem Pm.Fast.store {S : Pm} {k : Nat} {x : Int} (h : S.Fast k x) (i v : Int) (hi : i ≠ (k : Int)) : (S.store i v).Fast k x := by
  unfold Pm.store
  split
  · rename_i hm
    have h0 := Pm.may_ok hm
    have hne : k ≠ i.toNat := by omega
    refine ⟨?_, ?_⟩
    · show upd S.now i.toNat v k = x
      unfold upd
      rw [if_neg hne]
      exact h.1
    · show updO S.old i.toNat _ k = none
      unfold updO
      rw [if_neg hne]
      exact h.2
  · exact h

theorem Pm.Fast.crash {S : Pm} (hok : S.Ok) {k : Nat} {x : Int} (h : S.Fast k x) (keep : List Nat) : (S.crash keep).now k = x := by
  rw [Pm.crash_now hok, h.2]
  simp
  exact h.1

theorem Pm.crash_dirty (S : Pm) (keep : List Nat) : (S.crash keep).dirty = 0 := cnt_none _

/-- Stored, flushed, fenced: it lasts. -/
theorem Pm.fast_of {S : Pm} {n k : Nat} (h : S.Still n) (hfl : S.fl k = none) (hk : k < n) (x : Int) : (((S.store k x).flush k).fence).Fast k x := by
  have h1 := h.store (k : Int) x
  have h2 := h1.flush (k : Int)
  have e1 : S.store (k : Int) x = (S.put k x).deed := by
    unfold Pm.store
    rw [if_pos (h.may_in k hk)]
    rfl
  have hn1 : (S.store (k : Int) x).now k = x := by
    rw [e1]
    show upd S.now k x k = x
    unfold upd
    rw [if_pos rfl]
  have hf1 : (S.store (k : Int) x).fl k = none := by
    rw [e1]
    show updO S.fl k none k = none
    unfold updO
    rw [if_pos rfl]
  generalize S.store (k : Int) x = T at h1 h2 hn1 hf1
  have e2 : T.flush (k : Int) = (T.flushTo (k / 8 * 8) (min (k / 8 * 8 + 8) T.n)).deed := by
    unfold Pm.flush
    rw [if_pos (h1.may_in k hk)]
    rfl
  have e3 : ∀ U : Pm, U.gone = false → U.fence = U.settle.deed := fun U hg => by unfold Pm.fence; rw [hg]; rfl
  rw [e3 _ h2.gone, e2]
  refine ⟨hn1, ?_⟩
  have hn := h1.n
  show (if ((if k / 8 * 8 ≤ k ∧ k < min (k / 8 * 8 + 8) T.n ∧ (T.old k).isSome = true then some (T.now k) else T.fl k) : Option Int).isSome = true then none else T.old k) = none
  cases ho : T.old k with
  | none => simp
  | some y =>
    rw [if_pos (show k / 8 * 8 ≤ k ∧ k < min (k / 8 * 8 + 8) T.n ∧ (some y).isSome = true from ⟨by omega, by omega, rfl⟩)]
    rfl
end Go.Proofs.Ytfpnmphmngdkdaa
