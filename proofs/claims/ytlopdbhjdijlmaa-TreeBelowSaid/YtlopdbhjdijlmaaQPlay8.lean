/-
  A call of the sequence, and the table's: they agree. Plain: nothing is assumed.
-/
import Derived.Test.YtlopdbhjdijlmaaQInoM
import Derived.Test.YtlopdbhjdijlmaaQPut8
import Derived.Test.YtlopdbhjdijlmaaQDo8

namespace Go.Proofs.Ytlopdbhjdijlmaa
set_option linter.unusedSimpArgs false
set_option linter.unusedVariables false

theorem ino0_ok : ino0.Ok := by
  refine ⟨by unfold ino0 i64; decide, by unfold ino0 i64; decide, by unfold ino0 i64; decide, by unfold ino0 i64; decide, by simp [ino0], fun x hx => ?_, fun x hx => by cases hx⟩
  have hx' : x ∈ List.replicate 13 (0 : Int) := hx
  rw [List.eq_of_mem_replicate hx']
  unfold i64; omega

/-- What a call tells, its code, and the sheet behind it. -/
noncomputable def playI (S : Sh) (kd i : Int) (n : Ino) : Int × Int × Sh :=
  if kd % 3 = 0 then (i, (putI S i n).1, (putI S i n).2) else if kd % 3 = 1 then newI S n 0 32 else (0, (dropI S i).1, (dropI S i).2)

theorem new_first {S : Sh} {t : Nat → Ino} {xs : Nat → List Nat} {room : Nat} (h : TabR S t xs room) (n : Ino) : ∀ g k, k + g = 32 →
    newI S n k g = (match firstT t k g with | none => (0, 7, S) | some j => ((j : Int), (putI S (j : Int) n).1, (putI S (j : Int) n).2)) ∧ ∀ j, firstT t k g = some j → j < 32 := by
  intro g
  induction g with
  | zero => intro k _; exact ⟨rfl, fun j h => by cases h⟩
  | succ g ih =>
    intro k hk
    have e1 : newI S n k (g + 1) = if freeI S (k : Int) = true then ((k : Int), (putI S (k : Int) n).1, (putI S (k : Int) n).2) else newI S n (k + 1) g := rfl
    have e2 : firstT t k (g + 1) = if (t k).format = 0 then some k else firstT t (k + 1) g := rfl
    rw [e1, e2]
    rcases h.get (i := k) (by omega) with ⟨h0, hf, -⟩ | ⟨h0, hf, -⟩
    · rw [if_pos hf, if_pos h0]
      exact ⟨rfl, fun j hj => by cases hj; omega⟩
    · rw [if_neg (by rw [hf]; decide), if_neg h0]
      exact ih (k + 1) (by omega)

theorem put_step {S : Sh} {t : Nat → Ino} {xs : Nat → List Nat} {room : Nat} (h : TabR S t xs room) (ev : Nat → Value) (j : Int) {n : Ino} (hn : n.Ok) (hz : n.bl = List.replicate 13 0) (v : Value) :
    (putI S j n).1 = (putT t ev j n v (room : Int)).2.2.2 ∧ ((putI S j n).1 = 0 → j = (putT t ev j n v (room : Int)).2.2.1) ∧ ∃ xs', TabR (putI S j n).2 (putT t ev j n v (room : Int)).1 xs' room := by
  by_cases hj : j < 0 ∨ 31 < j
  · have e1 : putI S j n = (1, S) := by unfold putI; rw [if_pos (by omega)]
    have e2 : putT t ev j n v (room : Int) = (t, ev, 0, 1) := by unfold putT; rw [if_pos hj]
    rw [e1, e2]
    exact ⟨rfl, (fun h => by cases h), xs, h⟩
  · by_cases hr : RightP n
    · obtain ⟨i, rfl⟩ : ∃ i : Nat, j = (i : Int) := ⟨j.toNat, by omega⟩
      have hi : i < 32 := by omega
      obtain ⟨h1, h2⟩ := h.put hi hn hr hz
      have hc := h.count
      by_cases hs : needI n ≤ freeN S + oldT t i
      · have e2 : putT t ev (i : Int) n v (room : Int) = (setT t i n, setT ev i v, (i : Int), 0) := by
          unfold putT
          rw [if_neg hj, if_neg (fun g => g hr), if_neg (by rw [Int.toNat_natCast]; omega), Int.toNat_natCast]
        obtain ⟨g1, ys, g2⟩ := h1 hs
        rw [e2]
        exact ⟨g1, fun _ => rfl, _, g2⟩
      · have e2 : putT t ev (i : Int) n v (room : Int) = (t, ev, 0, 7) := by
          unfold putT
          rw [if_neg hj, if_neg (fun g => g hr), if_pos (by rw [Int.toNat_natCast]; omega)]
        rw [h2 hs, e2]
        exact ⟨rfl, (fun h => by cases h), xs, h⟩
    · have e1 : putI S j n = (1, S) := by unfold putI; rw [if_neg (by omega), if_pos hr]
      have e2 : putT t ev j n v (room : Int) = (t, ev, 0, 1) := by unfold putT; rw [if_neg hj, if_pos hr]
      rw [e1, e2]
      exact ⟨rfl, (fun h => by cases h), xs, h⟩

theorem play_step {S : Sh} {t : Nat → Ino} {xs : Nat → List Nat} {room : Nat} (h : TabR S t xs room) (ev : Nat → Value) (kd i : Int) (hkd : 0 ≤ kd) {n : Ino} (hn : n.Ok) (hz : n.bl = List.replicate 13 0) (v : Value) :
    (playI S kd i n).2.1 = (doT t ev kd i n v (room : Int)).2.2.2 ∧ ((playI S kd i n).2.1 = 0 → (playI S kd i n).1 = (doT t ev kd i n v (room : Int)).2.2.1) ∧ ∃ xs', TabR (playI S kd i n).2.2 (doT t ev kd i n v (room : Int)).1 xs' room := by
  by_cases h0 : kd % 3 = 0
  · have e1 : playI S kd i n = (i, (putI S i n).1, (putI S i n).2) := by unfold playI; rw [if_pos h0]
    have e2 : doT t ev kd i n v (room : Int) = putT t ev i n v (room : Int) := by unfold doT; rw [if_neg (by omega), if_neg (by omega)]
    rw [e1, e2]
    exact put_step h ev i hn hz v
  · by_cases h1 : kd % 3 = 1
    · have e1 : playI S kd i n = newI S n 0 32 := by unfold playI; rw [if_neg h0, if_pos h1]
      obtain ⟨g1, -⟩ := new_first h n 32 0 rfl
      rw [e1, g1]
      cases hf : firstT t 0 32 with
      | none =>
        have e2 : doT t ev kd i n v (room : Int) = (t, ev, 0, 7) := by unfold doT; rw [if_pos h1, hf]
        rw [e2]
        exact ⟨rfl, (fun h => by cases h), xs, h⟩
      | some j =>
        have e2 : doT t ev kd i n v (room : Int) = putT t ev (j : Int) n v (room : Int) := by unfold doT; rw [if_pos h1, hf]
        rw [e2]
        exact put_step h ev (j : Int) hn hz v
    · have e1 : playI S kd i n = (0, (dropI S i).1, (dropI S i).2) := by unfold playI; rw [if_neg h0, if_neg h1]
      rw [e1]
      by_cases hi : i < 0 ∨ 31 < i
      · have e2 : doT t ev kd i n v (room : Int) = (t, ev, 0, 1) := by unfold doT; rw [if_neg h1, if_pos (by omega), if_pos hi]
        have e3 : dropI S i = (1, S) := by
          have : getE S i = 1 := by unfold getE; rw [if_pos (by omega)]
          unfold dropI; rw [if_neg (by rw [this]; decide), this]
        rw [e2, e3]
        exact ⟨rfl, (fun h => by cases h), xs, h⟩
      · obtain ⟨j, rfl⟩ : ∃ j : Nat, i = (j : Int) := ⟨i.toNat, by omega⟩
        obtain ⟨d1, d2⟩ := h.drop (i := j) (by omega)
        by_cases hf : (t j).format = 0
        · have e2 : doT t ev kd (j : Int) n v (room : Int) = (t, ev, 0, 2) := by
            unfold doT; rw [if_neg h1, if_pos (by omega), if_neg hi, Int.toNat_natCast, if_pos hf]
          rw [e2, d1 hf]
          exact ⟨rfl, (fun h => by cases h), xs, h⟩
        · have e2 : doT t ev kd (j : Int) n v (room : Int) = (setT t j ino0, setT ev j (.slice none 0 0), 0, 0) := by
            unfold doT; rw [if_neg h1, if_pos (by omega), if_neg hi, Int.toNat_natCast, if_neg hf]
          obtain ⟨g1, g2⟩ := d2 hf
          rw [e2]
          exact ⟨g1, fun _ => rfl, _, g2⟩

theorem RightT.set {f : Nat → Ino} (h : RightT f) (i : Nat) {m : Ino} (hm : m.Ok) (hr : m.format = 0 ∨ RightP m) : RightT (setT f i m) := fun j hj => by
  by_cases e : j = i
  · subst e; rw [setT_same]; exact ⟨hm, hr⟩
  · rw [setT_ne _ _ e]; exact h j hj

/-- What a table's values are: an inode's entries as they were handed in. -/
theorem do_keeps {w : World} {f : Nat → Ino} {ev : Nat → Value} {n : Ino} {v : Value} (hr : RightT f) (he : HoldsT w f ev) (hn : n.Ok) (hv : HoldsE w v n.ents) (kd i room : Int) :
    RightT (doT f ev kd i n v room).1 ∧ HoldsT w (doT f ev kd i n v room).1 (doT f ev kd i n v room).2.1 := by
  have hput : ∀ j : Int, RightT (putT f ev j n v room).1 ∧ HoldsT w (putT f ev j n v room).1 (putT f ev j n v room).2.1 := fun j => by
    unfold putT
    split
    · exact ⟨hr, he⟩
    · split
      · exact ⟨hr, he⟩
      · rename_i hrp
        split
        · exact ⟨hr, he⟩
        · exact ⟨hr.set _ hn (.inr (Classical.not_not.1 hrp)), he.set _ hv⟩
  unfold doT
  split
  · cases firstT f 0 32 with
    | none => exact ⟨hr, he⟩
    | some k => exact hput _
  · split
    · split
      · exact ⟨hr, he⟩
      · split
        · exact ⟨hr, he⟩
        · refine ⟨hr.set _ ?_ (.inl rfl), he.set _ (HoldsE.nil w)⟩
          exact ino0_ok
    · exact hput _

theorem TabR.start {S : Sh} (hz : ∀ j : Int, 824 ≤ j → j < 1080 → S.get j = 0) : TabR S inoT0 (fun _ => []) (freeN S) := by
  refine ⟨fun i hi _ => ⟨rfl, fun j h1 h2 => hz j (by omega) (by omega)⟩, fun i hi h => absurd rfl h, (fun i hi b hb => by cases hb), (fun i j _ _ _ b hb => by cases hb), ?_⟩
  have : ∀ k, usedT inoT0 k = 0 := by
    intro k
    induction k with
    | zero => rfl
    | succ k ih =>
      show usedT inoT0 k + (if 0 < (inoT0 k).format then needI (inoT0 k) else 0) = 0
      rw [ih, if_neg (by show ¬ 0 < ino0.format; decide)]
  have h0 := this 32
  omega
theorem RightT.start : RightT inoT0 := fun i hi => ⟨ino0_ok, .inl rfl⟩
theorem HoldsT.start (w : World) : HoldsT w inoT0 nilT := fun i hi => HoldsE.nil w
end Go.Proofs.Ytlopdbhjdijlmaa
