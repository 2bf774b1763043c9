/-
  A crash, as a plain function; the dirty places in their order. No program here.
-/
import Derived.Test.YtfpnmphmngdkdaaPmM
namespace Go.Proofs.Ytfpnmphmngdkdaa
set_option linter.unusedVariables false

/-- The first n places that have an entry, ascending. -/
def places (f : Nat → Option Int) : Nat → List Nat
  | 0 => []
  | n + 1 => places f n ++ if (f n).isSome then [n] else []

theorem places_length (f : Nat → Option Int) (n : Nat) : (places f n).length = cnt f n := by
  induction n with
  | zero => rfl
  | succ n ih => simp only [places, cnt, List.length_append, ih]; split <;> simp

theorem places_mem (f : Nat → Option Int) (n i : Nat) : i ∈ places f n ↔ i < n ∧ (f i).isSome = true := by
  induction n with
  | zero => simp [places]
  | succ n ih =>
    simp only [places, List.mem_append, ih]
    by_cases e : i = n
    · subst e
      cases h : (f i).isSome <;> simp
    · have : i ∉ (if (f n).isSome then [n] else []) := by split <;> simp [e]
      simp only [this, or_false]
      constructor
      · rintro ⟨a, b⟩
        exact ⟨by omega, b⟩
      · rintro ⟨a, b⟩
        exact ⟨by omega, b⟩

theorem places_lt (f : Nat → Option Int) (n : Nat) : (places f n).Pairwise (· < ·) := by
  induction n with
  | zero => exact List.Pairwise.nil
  | succ n ih =>
    simp only [places]
    rw [List.pairwise_append]
    refine ⟨ih, by split <;> simp, fun a ha b hb => ?_⟩
    have := ((places_mem f n a).1 ha).1
    split at hb
    · simp at hb
      omega
    · cases hb

theorem places_get (f : Nat → Option Int) (n k : Nat) (hk : k < cnt f n) : ∃ i, (places f n)[k]? = some i ∧ i < n ∧ (f i).isSome = true ∧ cnt f i = k := by
  induction n with
  | zero => simp [cnt] at hk
  | succ n ih =>
    by_cases e : k < cnt f n
    · obtain ⟨i, h1, h2, h3, h4⟩ := ih e
      refine ⟨i, ?_, by omega, h3, h4⟩
      simp only [places]
      rw [List.getElem?_append_left (by rw [places_length]; exact e)]
      exact h1
    · simp only [cnt] at hk
      cases h : (f n).isSome with
      | false => rw [h] at hk; simp at hk; omega
      | true =>
        rw [h] at hk
        simp at hk
        refine ⟨n, ?_, by omega, h, by omega⟩
        simp only [places, h, if_true]
        rw [List.getElem?_append_right (by rw [places_length]; omega), places_length]
        have : k - cnt f n = 0 := by omega
        rw [this]
        rfl

theorem cnt_lt (f : Nat → Option Int) (n i : Nat) (hi : i < n) (h : (f i).isSome = true) : cnt f i < cnt f n := by
  induction n with
  | zero => omega
  | succ n ih =>
    simp only [cnt]
    by_cases e : i = n
    · subst e
      rw [h]
      simp
    · have := ih (by omega)
      omega

/-- Is the k-th dirty word let go? -/
def back (keep : List Nat) (k : Nat) : Bool := keep.length == 0 || keep.getD (k % keep.length) 0 % 2 == 0

def Pm.crashTo (S : Pm) (keep : List Nat) (k : Nat) : Pm := { S with now := fun j => if (S.old j).isSome = true ∧ cnt S.old j < k ∧ back keep (cnt S.old j) = true then S.last j else S.now j }
def Pm.crash (S : Pm) (keep : List Nat) : Pm := { S with now := (S.crashTo keep S.dirty).now, old := fun _ => none, fl := fun _ => none, fuse := -1, gone := false }

theorem Pm.crash_now {S : Pm} (h : S.Ok) (keep : List Nat) (j : Nat) : (S.crash keep).now j = if (S.old j).isSome = true ∧ back keep (cnt S.old j) = true then S.last j else S.now j := by
  show (if (S.old j).isSome = true ∧ cnt S.old j < S.dirty ∧ back keep (cnt S.old j) = true then S.last j else S.now j) = _
  cases e : (S.old j).isSome with
  | false => simp
  | true =>
    obtain ⟨x, hx⟩ := Option.isSome_iff_exists.1 e
    have := cnt_lt S.old S.n j (h.old j x hx).1 e
    have hc : cnt S.old j < S.dirty := this
    simp [hc]

theorem Pm.crashTo_zero (S : Pm) (keep : List Nat) : S.crashTo keep 0 = S := by
  unfold Pm.crashTo
  simp

theorem cnt_inj (f : Nat → Option Int) {i j : Nat} (hi : (f i).isSome = true) (hj : (f j).isSome = true) (h : cnt f i = cnt f j) : i = j := by
  rcases Nat.lt_trichotomy i j with e | e | e
  · have := cnt_lt f j i e hi
    omega
  · exact e
  · have := cnt_lt f i j e hj
    omega

theorem Pm.crashTo_back {S : Pm} {keep : List Nat} {k i : Nat} (hi : (S.old i).isSome = true) (hk : cnt S.old i = k) (hb : back keep k = true) :
    S.crashTo keep (k + 1) = { S.crashTo keep k with now := upd (S.crashTo keep k).now i (S.last i) } := by
  unfold Pm.crashTo
  congr 1
  funext j
  simp only [upd]
  by_cases e : j = i
  · subst e
    rw [if_pos rfl, if_pos ⟨hi, by omega, by rw [hk]; exact hb⟩]
  · rw [if_neg e]
    by_cases h : (S.old j).isSome = true
    · have hne : cnt S.old j ≠ k := fun h2 => e (cnt_inj S.old h hi (by omega))
      by_cases h3 : cnt S.old j < k
      · simp [h, h3, show cnt S.old j < k + 1 by omega]
      · simp [h3, show ¬ cnt S.old j < k + 1 by omega]
    · simp [h]

theorem Pm.crashTo_stay {S : Pm} {keep : List Nat} {k i : Nat} (hi : (S.old i).isSome = true) (hk : cnt S.old i = k) (hb : back keep k = false) :
    S.crashTo keep (k + 1) = S.crashTo keep k := by
  unfold Pm.crashTo
  congr 1
  funext j
  by_cases h : (S.old j).isSome = true
  · by_cases e : cnt S.old j = k
    · have : i = j := cnt_inj S.old hi h (by omega)
      subst this
      simp [e, hb]
    · by_cases h3 : cnt S.old j < k
      · simp [h, h3, show cnt S.old j < k + 1 by omega]
      · simp [h3, show ¬ cnt S.old j < k + 1 by omega]
  · simp [h]

theorem Pm.Ok.crashTo {S : Pm} (h : S.Ok) (keep : List Nat) (k : Nat) : (S.crashTo keep k).Ok := by
  refine ⟨h.n, fun j => ?_, h.old, h.fl, h.fuse⟩
  simp only [Pm.crashTo]
  split
  · exact h.last j
  · exact h.now j

theorem Pm.Ok.crash {S : Pm} (h : S.Ok) (keep : List Nat) : (S.crash keep).Ok :=
  ⟨h.n, (h.crashTo keep S.dirty).now, (fun i x hx => by cases hx), (fun i x hx => by cases hx), by simp [Pm.crash]⟩
end Go.Proofs.Ytfpnmphmngdkdaa
