/-
  What fmt1.Read tells is laid: plain lemmas. Nothing is assumed.
  The document's words of an inode in the second format, plainly. Nothing is assumed.
-/
import Derived.Test.YtlopdbhjdijlmaaQLayGet
import Derived.Test.YtlopdbhjdijlmaaQPut3

namespace Go.Proofs.Ytlopdbhjdijlmaa
open Go.ChangeShapes Go.WideShapes Go.ChangeAt Go.RowKit
set_option linter.unusedSimpArgs false
set_option linter.unusedVariables false

theorem namesTo_pos {S : Sh} (l : List Int) : ∀ (m : Nat) out own, namesTo S l m = some (out, own) → ∀ b ∈ own, 1 ≤ b := by
  intro m
  induction m with
  | zero =>
    intro out own e
    simp only [namesTo, Option.some.injEq, Prod.mk.injEq] at e
    obtain ⟨rfl, rfl⟩ := e
    intro b hb; cases hb
  | succ m ih =>
    intro out own e
    simp only [namesTo] at e
    cases hr : namesTo S l m with
    | none => rw [hr] at e; cases e
    | some r =>
      obtain ⟨o1, w1⟩ := r
      rw [hr] at e
      have i1 := ih o1 w1 hr
      simp only [Option.bind_some] at e
      unfold namesStep at e
      split at e
      · cases e
      · rename_i hb1
        split at e
        · simp only [Option.some.injEq, Prod.mk.injEq] at e
          obtain ⟨rfl, rfl⟩ := e
          intro b hb
          split at hb
          · rcases List.mem_append.1 hb with h1 | h1
            · exact i1 b h1
            · rw [List.mem_singleton] at h1
              omega
          · exact i1 b hb
        · cases e

theorem allOf_take (own : List Nat) (li : Int) : (allOf own li).take own.length = own := by
  unfold allOf
  split
  · rw [List.take_append_of_le_length (Nat.le_refl _), List.take_length]
  · exact List.take_length

theorem finR_some {S : Sh} {i : Int} (hi : 0 ≤ i ∧ i < 32) {m m' : Ino} {own xs : List Nat} {li : Int} (hli : 0 ≤ li ∧ li < 256) (hl : m.bl.length = 13) (hown : ∀ b ∈ own, 1 ≤ b ∧ b < 256) (hneed : RightP m → own.length = need1 m)
    (h : finR S (824 + i * 8) m own li = some (m', xs)) : m' = m ∧ RightP m ∧ LaidI S i m xs := by
  unfold finR at h
  split at h
  · rename_i hc
    obtain ⟨hr, hap, hex⟩ := hc
    simp only [Option.some.injEq, Prod.mk.injEq] at h
    obtain ⟨rfl, rfl⟩ := h
    have hon := hneed hr
    have hA := (apartB_iff _).1 hap
    have hlen : own.length ≤ (allOf own li).length := by
      have := congrArg List.length (allOf_take own li)
      rw [List.length_take] at this
      omega
    have hget : ∀ a, a < own.length → (allOf own li).getD a 0 = own.getD a 0 := fun a ha => by
      have := take_getD (allOf own li) own.length a ha
      rw [allOf_take] at this
      exact this.symm
    have ho : OwnOK own (need1 m) := by
      refine ⟨fun a ha => (hown _ (getD_in (by omega))).2, fun a b hab hb => ?_⟩
      have := hA a b hab (by omega)
      rw [hget a (by omega), hget b (by omega)] at this
      exact this
    have hpos : ∀ a, a < need1 m → 1 ≤ own.getD a 0 := fun a ha => (hown _ (getD_in (by omega))).1
    have hne : ∀ a, a < need1 m → li ≠ 0 → ((own.getD a 0 : Nat) : Int) ≠ li := by
      intro a ha h0
      have e : allOf own li = own ++ [li.toNat] := by unfold allOf; rw [if_pos (by omega)]
      have := hA a own.length (by omega) (by rw [e]; simp)
      rw [hget a (by omega), e, List.getD_eq_getElem?_getD (l := own ++ [li.toNat]), List.getElem?_append_right (Nat.le_refl _), Nat.sub_self] at this
      simp only [List.getElem?_cons_zero, Option.getD_some] at this
      omega
    obtain ⟨hQ, hlong⟩ := (exactP_iff S (at_ := 824 + i * 8) (by omega) m own hli hon ho hne).1 hex
    rw [longP_blOf hr hl (by omega) hpos, ← more1_one] at hlong
    have hmo := more1_le m
    have htk : (allOf own li).take (need1 m) = own := by rw [← hon]; exact allOf_take own li
    have hlist : listOf (allOf own li) (need1 m) (more1 m) = li := by
      unfold listOf
      by_cases hm : more1 m = 1
      · rw [if_pos hm]
        have h0 := hlong.2 hm
        have e : allOf own li = own ++ [li.toNat] := by unfold allOf; rw [if_pos (by omega)]
        rw [e, ← hon, List.getD_eq_getElem?_getD, List.getElem?_append_right (Nat.le_refl _), Nat.sub_self]
        simp only [List.getElem?_cons_zero, Option.getD_some]
        omega
      · rw [if_neg hm]
        by_cases h0 : li = 0
        · exact h0.symm
        · exact absurd (hlong.1 h0) hm
    refine ⟨rfl, hr, ⟨by rw [htk, hlist]; exact hQ, ?_, ?_, hA⟩⟩
    · unfold allOf
      split
      · rename_i h0
        rw [List.length_append, List.length_singleton, hlong.1 (by omega), hon]
      · rename_i h0
        have : more1 m ≠ 1 := fun hm => by have := hlong.2 hm; omega
        omega
    · intro x hx
      unfold allOf at hx
      split at hx
      · rcases List.mem_append.1 hx with h1 | h1
        · exact hown x h1
        · rw [List.mem_singleton] at h1
          omega
      · exact hown x hx
  · cases h

/-- What Read tells is right, and lies there. -/
theorem rd1_some {S : Sh} (hS : S.Ok) {i : Int} {m : Ino} {xs : List Nat} (h : rd1 S i = some (m, xs)) : (0 ≤ i ∧ i < 32) ∧ m.Ok ∧ RightP m ∧ m.format = 1 ∧ LaidI S i m xs := by
  unfold rd1 at h
  split at h
  · cases h
  · rename_i hi
    have hi' : 0 ≤ i ∧ i < 32 := by omega
    have hl := readL_range hS (824 + i * 8)
    have hn := readN_ok hS (824 + i * 8)
    unfold rdAt at h
    split at h
    · cases h
    · rename_i hb
      have hli : 0 ≤ readL S (824 + i * 8) ∧ readL S (824 + i * 8) < 256 := by omega
      have hf : (readN S (824 + i * 8)).format = 1 := by omega
      split at h
      · rename_i hk
        cases hnm : namesTo S (readN S (824 + i * 8)).bl (min (readN S (824 + i * 8)).size.toNat 24) with
        | none => rw [hnm] at h; cases h
        | some r =>
          obtain ⟨out, own⟩ := r
          rw [hnm, Option.bind_some] at h
          obtain ⟨n1, n2, n3, n4⟩ := namesTo_law hS _ (fun k hk => (readN_bl hS _ k hk).2) _ (by omega) _ _ hnm
          have n5 := namesTo_pos _ _ _ _ hnm
          obtain ⟨rfl, hr, hL⟩ := finR_some hi' hli zbl_len (fun b hb => ⟨n5 b hb, n3 b hb⟩) (fun _ => by unfold need1; dsimp only; omega) h
          exact ⟨hi', readN_z hS _ n4, hr, hf, hL⟩
      · obtain ⟨rfl, hr, hL⟩ := finR_some hi' hli hn.len (fun b hb => by cases hb) (fun hr => by
          rcases hr.2.2.2 with ⟨-, h2⟩ | ⟨h2, -⟩
          · unfold need1; rw [h2.2.2.2]; rfl
          · omega) h
        exact ⟨hi', hn, hr, hf, hL⟩

end Go.Proofs.Ytlopdbhjdijlmaa

namespace Go.Proofs.Ytlopdbhjdijlmaa
open Go.ChangeShapes Go.WideShapes Go.ChangeAt Go.RowKit
set_option linter.unusedSimpArgs false
set_option linter.unusedVariables false

def fileV (R : List Int) (own : List Nat) (i : Nat) : Int :=
  if own = [] then (if i < 6 then R.getD i 0 else 0)
  else if i = 5 then 9223372036854775808 + ((own.getD 0 0 : Nat) : Int) else R.getD (if 5 < i then i - 1 else i) 0

theorem getD_far {R : List Int} {i : Nat} (h : R.length ≤ i) : R.getD i 0 = 0 := by
  rw [List.getD_eq_getElem?_getD, List.getElem?_eq_none h]; rfl

/-- The r-th word of a bucket's k-th block. -/
noncomputable def wd3 (l : List En) (own : List Nat) (fr d k r : Nat) : Int :=
  if r = 0 then (if k + 1 < d then ((own.getD (fr + k + 1) 0 : Nat) : Int) else 0)
  else if r = 7 then 0
  else if 3 * k + (r - 1) / 2 < l.length then (if r % 2 = 1 then ((nword (l.getD (3 * k + (r - 1) / 2) default).name : Nat) : Int) else (l.getD (3 * k + (r - 1) / 2) default).ino)
  else 0
noncomputable def hitK (l : List En) (own : List Nat) (fr d : Nat) (i : Int) : Nat → Nat → Option Int
  | _, 0 => none
  | k, f + 1 => if 0 ≤ i - 1080 - 8 * ((own.getD (fr + k) 0 : Nat) : Int) ∧ i - 1080 - 8 * ((own.getD (fr + k) 0 : Nat) : Int) ≤ 7 then some (wd3 l own fr d k (i - 1080 - 8 * ((own.getD (fr + k) 0 : Nat) : Int)).toNat) else hitK l own fr d i (k + 1) f
noncomputable def dB (l : List En) (b : Nat) : Nat := ((bktL l b).length + 2) / 3
noncomputable def wordB (l : List En) (own : List Nat) (at_ i : Int) : Nat → Nat → Int × Bool
  | _, 0 => (0, decide (i - at_ = 6 ∨ i - at_ = 7))
  | b, f + 1 => if i - at_ = 2 + (b : Int) then (if 0 < dB l b then ((own.getD (sumB l b) 0 : Nat) : Int) else 0, true) else
    match hitK (bktL l b) own (sumB l b) (dB l b) i 0 (dB l b) with
    | some v => (v, true)
    | none => wordB l own at_ i (b + 1) f
noncomputable def word2At (n : Ino) (at_ : Int) (own : List Nat) (i : Int) : Int × Bool :=
  if i = at_ then (tagW n, true) else if i = at_ + 1 then (n.size, true)
  else if n.kind = 1 then
    (if 2 ≤ i - at_ ∧ i - at_ < 8 then (fileV (RunsM.runs n.bl) own (i - at_ - 2).toNat, true)
     else if own ≠ [] ∧ 0 ≤ i - 1080 - 8 * ((own.getD 0 0 : Nat) : Int) ∧ i - 1080 - 8 * ((own.getD 0 0 : Nat) : Int) < 8 then (fileV (RunsM.runs n.bl) own (6 + (i - 1080 - 8 * ((own.getD 0 0 : Nat) : Int)).toNat), true)
     else (0, false))
  else wordB n.ents own at_ i 0 4

end Go.Proofs.Ytlopdbhjdijlmaa
