/-
  A memory that may last, as plain functions. No program here but the maps' reading.
-/
import Derived.Test.YtfpnmphmngdkdaaMapR
namespace Go.Proofs.Ytfpnmphmngdkdaa
set_option linter.unusedVariables false

structure Pm where
  n : Nat
  now : Nat → Int
  old : Nat → Option Int
  fl : Nat → Option Int
  fuse : Int
  deeds : Nat
  gone : Bool

structure Pm.Ok (S : Pm) : Prop where
  n : S.n ≤ 10000
  now : ∀ i, 0 ≤ S.now i ∧ S.now i < 18446744073709551616
  old : ∀ i x, S.old i = some x → i < S.n ∧ 0 ≤ x ∧ x < 18446744073709551616
  fl : ∀ i x, S.fl i = some x → i < S.n ∧ 0 ≤ x ∧ x < 18446744073709551616
  fuse : -1 ≤ S.fuse ∧ S.fuse ≤ 9223372036854775807

def Pm.may (S : Pm) (i : Int) : Int := if S.gone then 9 else if i < 0 ∨ (S.n : Int) ≤ i then 1 else 0
def Pm.deed (S : Pm) : Pm := { S with deeds := S.deeds + 1, fuse := if 0 < S.fuse then S.fuse - 1 else S.fuse, gone := if 0 < S.fuse then decide (S.fuse - 1 = 0) else S.gone }
def Pm.last (S : Pm) (i : Nat) : Int := (S.old i).getD (S.now i)
def Pm.put (S : Pm) (i : Nat) (v : Int) : Pm := { S with now := upd S.now i v, old := updO S.old i (if S.last i = v then none else some (S.last i)), fl := updO S.fl i none }
def Pm.store (S : Pm) (i v : Int) : Pm := if S.may i = 0 then (S.put i.toNat v).deed else S
def Pm.flushTo (S : Pm) (i k : Nat) : Pm := { S with fl := fun j => if i ≤ j ∧ j < k ∧ (S.old j).isSome then some (S.now j) else S.fl j }
def Pm.flush (S : Pm) (i : Int) : Pm := if S.may i = 0 then (S.flushTo (i.toNat / 8 * 8) (min (i.toNat / 8 * 8 + 8) S.n)).deed else S
def Pm.settle (S : Pm) : Pm := { S with old := fun k => if (S.fl k).isSome then none else S.old k, fl := fun _ => none }
def Pm.fence (S : Pm) : Pm := if S.gone then S else S.settle.deed
def Pm.fenceE (S : Pm) : Int := if S.gone then 9 else 0
def Pm.dirty (S : Pm) : Nat := cnt S.old S.n
def Pm.load (S : Pm) (i : Int) : Int := if S.may i = 0 then S.now i.toNat else 0
def Pm.new (l : List Int) : Pm := ⟨min l.length 10000, fun i => l.getD i 0, fun _ => none, fun _ => none, -1, 0, false⟩
def Pm.blow (S : Pm) (k : Int) : Pm := if S.gone then S else { S with fuse := max k (-1), gone := decide (k = 0) }

theorem Pm.may_ok {S : Pm} {i : Int} (h : S.may i = 0) : 0 ≤ i ∧ i < S.n ∧ S.gone = false := by
  unfold Pm.may at h
  split at h
  · omega
  · rename_i hg
    split at h
    · omega
    · exact ⟨by omega, by omega, by simpa using hg⟩

theorem Pm.Ok.deed {S : Pm} (h : S.Ok) : S.deed.Ok := ⟨h.n, h.now, h.old, h.fl, by have := h.fuse; unfold Pm.deed; simp only; split <;> omega⟩

theorem Pm.Ok.last {S : Pm} (h : S.Ok) (i : Nat) : 0 ≤ S.last i ∧ S.last i < 18446744073709551616 := by
  unfold Pm.last
  cases e : S.old i with
  | none => exact h.now i
  | some x => exact (h.old i x e).2

theorem Pm.Ok.put {S : Pm} (h : S.Ok) (i : Nat) (hi : i < S.n) (v : Int) (h0 : 0 ≤ v) (h1 : v < 18446744073709551616) : (S.put i v).Ok := by
  refine ⟨h.n, fun k => ?_, fun k x hx => ?_, fun k x hx => ?_, h.fuse⟩
  · simp only [Pm.put, upd]
    split
    · exact ⟨h0, h1⟩
    · exact h.now k
  · simp only [Pm.put, updO] at hx
    split at hx
    · rename_i e
      subst e
      split at hx
      · cases hx
      · simp at hx
        subst hx
        exact ⟨hi, h.last k⟩
    · exact h.old k x hx
  · simp only [Pm.put, updO] at hx
    split at hx
    · cases hx
    · exact h.fl k x hx

theorem Pm.Ok.flushTo {S : Pm} (h : S.Ok) (i k : Nat) : (S.flushTo i k).Ok := by
  refine ⟨h.n, h.now, h.old, fun j x hx => ?_, h.fuse⟩
  simp only [Pm.flushTo] at hx
  split at hx
  · rename_i e
    simp at hx
    subst hx
    cases e2 : S.old j with
    | none => simp [e2] at e
    | some y => exact ⟨(h.old j y e2).1, h.now j⟩
  · exact h.fl j x hx

theorem Pm.Ok.settle {S : Pm} (h : S.Ok) : S.settle.Ok :=
  ⟨h.n, h.now, fun i x hx => by simp only [Pm.settle] at hx; split at hx; cases hx; exact h.old i x hx, (fun i x hx => by cases hx), h.fuse⟩

theorem Pm.Ok.store {S : Pm} (h : S.Ok) (i v : Int) (h0 : 0 ≤ v) (h1 : v < 18446744073709551616) : (S.store i v).Ok := by
  unfold Pm.store
  split
  · rename_i e
    have := Pm.may_ok e
    exact (h.put i.toNat (by omega) v h0 h1).deed
  · exact h

theorem Pm.Ok.flush {S : Pm} (h : S.Ok) (i : Int) : (S.flush i).Ok := by
  unfold Pm.flush
  split
  · exact (h.flushTo _ _).deed
  · exact h

theorem Pm.Ok.fence {S : Pm} (h : S.Ok) : S.fence.Ok := by
  unfold Pm.fence
  split
  · exact h
  · exact h.settle.deed

theorem Pm.Ok.new {l : List Int} (h : ∀ z ∈ l, 0 ≤ z ∧ z < 18446744073709551616) : (Pm.new l).Ok := by
  refine ⟨Nat.min_le_right _ _, fun i => ?_, (fun i x hx => by cases hx), (fun i x hx => by cases hx), by simp [Pm.new]⟩
  show 0 ≤ l.getD i 0 ∧ l.getD i 0 < _
  by_cases hi : i < l.length
  · rw [List.getD_eq_getElem?_getD, List.getElem?_eq_getElem hi]
    exact h _ (List.getElem_mem hi)
  · rw [List.getD_eq_getElem?_getD, List.getElem?_eq_none (by omega)]
    simp

theorem Pm.Ok.blow {S : Pm} (h : S.Ok) (k : Int) (hk : k ≤ 9223372036854775807) : (S.blow k).Ok := by
  unfold Pm.blow
  split
  · exact h
  · exact ⟨h.n, h.now, h.old, h.fl, by simp only; omega⟩
end Go.Proofs.Ytfpnmphmngdkdaa
