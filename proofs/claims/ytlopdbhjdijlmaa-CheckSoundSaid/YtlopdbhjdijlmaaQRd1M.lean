/-
  What fmt1.Read answers, plainly; bounds. Nothing is assumed.
-/
import Derived.Test.YtlopdbhjdijlmaaQRead1
import Derived.Test.YtlopdbhjdijlmaaQRead2
import Derived.Test.YtlopdbhjdijlmaaQExact2

namespace Go.Proofs.Ytlopdbhjdijlmaa
set_option linter.unusedSimpArgs false
set_option linter.unusedVariables false

def zbl : List Int := List.replicate 13 0
def allOf (own : List Nat) (list : Int) : List Nat := if 0 < list then own ++ [list.toNat] else own
open Classical in
noncomputable def finR (S : Sh) (at_ : Int) (n : Ino) (own : List Nat) (list : Int) : Option (Ino × List Nat) :=
  if RightP n ∧ apartB (allOf own list) = true ∧ ExactP S at_ n own list then some (n, allOf own list) else none
noncomputable def rdAt (S : Sh) (at_ : Int) : Option (Ino × List Nat) :=
  if readL S at_ < 0 ∨ (readN S at_).format ≠ 1 then none
  else if (readN S at_).kind = 2 then
    (namesTo S (readN S at_).bl (min (readN S at_).size.toNat 24)).bind fun r => finR S at_ { readN S at_ with ents := r.1, bl := zbl } r.2 (readL S at_)
  else finR S at_ (readN S at_) [] (readL S at_)
noncomputable def rd1 (S : Sh) (i : Int) : Option (Ino × List Nat) := if i < 0 ∨ 32 ≤ i then none else rdAt S (824 + i * 8)

theorem blockI_range {x : Int} (h : 0 ≤ x) : -1 ≤ blockI x ∧ blockI x < 256 := by
  unfold blockI
  split <;> omega
theorem readL_range {S : Sh} (h : S.Ok) (at_ : Int) : -1 ≤ readL S at_ ∧ readL S at_ < 256 := blockI_range (h.get _).1
theorem readB_range {S : Sh} (h : S.Ok) (at_ : Int) (k : Nat) : -1 ≤ readB S at_ k ∧ readB S at_ k < 256 := by
  unfold readB
  split
  · exact blockI_range (h.get _).1
  · split
    · exact blockI_range (h.get _).1
    · omega
theorem readN_len (S : Sh) (at_ : Int) : (readN S at_).bl.length = 13 := readTo_len S at_ 13
theorem readN_bl {S : Sh} (h : S.Ok) (at_ : Int) (k : Nat) (hk : k < 13) : -1 ≤ (readN S at_).bl.getD k 0 ∧ (readN S at_).bl.getD k 0 < 256 := by
  show -1 ≤ (readTo S at_ 13).getD k 0 ∧ (readTo S at_ 13).getD k 0 < 256
  rw [readTo_get S at_ 13 k hk, if_pos hk]
  exact readB_range h at_ k
theorem readN_size {S : Sh} (h : S.Ok) (at_ : Int) : 0 ≤ (readN S at_).size ∧ (readN S at_).size ≤ 1048576 := by
  show 0 ≤ (if 1048576 < S.get (at_ + 1) then (1048576 : Int) else S.get (at_ + 1)) ∧ (if 1048576 < S.get (at_ + 1) then (1048576 : Int) else S.get (at_ + 1)) ≤ 1048576
  have := (h.get (at_ + 1)).1
  split <;> omega
theorem readN_ok {S : Sh} (h : S.Ok) (at_ : Int) : (readN S at_).Ok := by
  have hx := h.get at_
  have hs := readN_size h at_
  refine ⟨?_, ?_, ?_, ?_, readN_len S at_, ?_, ?_⟩
  · show i64 (S.get at_ % 256)
    unfold i64; omega
  · show i64 (S.get at_ / 256 % 256)
    unfold i64; omega
  · show i64 (S.get at_ / 65536 % 65536)
    unfold i64; omega
  · unfold i64; omega
  · intro x hx
    obtain ⟨k, hk, rfl⟩ := List.getElem_of_mem hx
    have h13 : k < 13 := by rw [readN_len] at hk; exact hk
    have := readN_bl h at_ k h13
    rw [List.getD_eq_getElem?_getD, List.getElem?_eq_getElem hk] at this
    simp only [Option.getD_some] at this
    unfold i64; omega
  · intro x hx
    cases hx

theorem zbl_len : zbl.length = 13 := rfl
theorem zbl_mem {x : Int} (h : x ∈ zbl) : x = 0 := List.eq_of_mem_replicate h
theorem readN_z {S : Sh} (h : S.Ok) (at_ : Int) {l : List En} (hl : ∀ x ∈ l, x.Ok) : ({ readN S at_ with ents := l, bl := zbl } : Ino).Ok := by
  obtain ⟨h1, h2, h3, h4, h5, h6, h7⟩ := readN_ok h at_
  exact ⟨h1, h2, h3, h4, zbl_len, fun x hx => by rw [zbl_mem hx]; unfold i64; omega, hl⟩

theorem namesTo_law {S : Sh} (h : S.Ok) (l : List Int) (hb : ∀ k, k < 13 → l.getD k 0 < 256) : ∀ (m : Nat), m ≤ 52 → ∀ out own, namesTo S l m = some (out, own) →
    out.length = m ∧ own.length = (m + 3) / 4 ∧ (∀ b ∈ own, b < 256) ∧ ∀ x ∈ out, x.Ok := by
  intro m
  induction m with
  | zero =>
    intro _ out own e
    simp only [namesTo, Option.some.injEq, Prod.mk.injEq] at e
    obtain ⟨rfl, rfl⟩ := e
    exact ⟨rfl, rfl, (fun b hb => by cases hb), (fun x hx => by cases hx)⟩
  | succ m ih =>
    intro hm out own e
    simp only [namesTo] at e
    cases hr : namesTo S l m with
    | none => rw [hr] at e; cases e
    | some r =>
      obtain ⟨o1, w1⟩ := r
      rw [hr] at e
      obtain ⟨i1, i2, i3, i4⟩ := ih (by omega) o1 w1 hr
      simp only [Option.bind_some] at e
      unfold namesStep at e
      split at e
      · cases e
      · rename_i hb1
        split at e
        · rename_i hc
          simp only [Option.some.injEq, Prod.mk.injEq] at e
          obtain ⟨rfl, rfl⟩ := e
          have hbl := hb (m / 4) (by omega)
          refine ⟨by simp [i1], ?_, ?_, ?_⟩
          · split
            · rw [List.length_append, i2, List.length_singleton]; omega
            · rw [i2]; omega
          · intro b hb2
            split at hb2
            · rcases List.mem_append.1 hb2 with h1 | h1
              · exact i3 b h1
              · rw [List.mem_singleton] at h1
                omega
            · exact i3 b hb2
          · intro x hx
            rcases List.mem_append.1 hx with h1 | h1
            · exact i4 x h1
            · rw [List.mem_singleton] at h1
              subst h1
              have hg := (h.get (1080 + l.getD (m / 4) 0 * 8 + 2 * ((m % 4 : Nat) : Int) + 1)).1
              refine ⟨?_, ?_⟩
              · show (wtext _).size ≤ maxLen
                have hn := hc.1
                simp only [isName, Bool.and_eq_true, decide_eq_true_eq] at hn
                have hw : (wtext (S.get (1080 + l.getD (m / 4) 0 * 8 + 2 * ((m % 4 : Nat) : Int))).toNat).size ≤ 8 := by
                  unfold wtext
                  rw [bstr_size, List.length_take]
                  simp [PackM.bytes]
                  omega
                unfold maxLen
                omega
              · have := hc.2
                dsimp only
                omega
        · cases e

theorem allOf_lt {own : List Nat} (h : ∀ b ∈ own, b < 256) {list : Int} (hl : list < 256) : ∀ b ∈ allOf own list, b < 256 := by
  intro b hb
  unfold allOf at hb
  split at hb
  · rcases List.mem_append.1 hb with h1 | h1
    · exact h b h1
    · rw [List.mem_singleton] at h1
      omega
  · exact h b hb
theorem allOf_len (own : List Nat) (list : Int) : (allOf own list).length ≤ own.length + 1 := by
  unfold allOf
  split <;> simp

end Go.Proofs.Ytlopdbhjdijlmaa
