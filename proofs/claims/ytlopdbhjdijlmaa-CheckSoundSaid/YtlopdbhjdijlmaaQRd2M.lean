/-
  What fmt2.Read answers, plainly; bounds. Nothing is assumed.
-/
import Derived.Test.YtlopdbhjdijlmaaQRuns2
import Derived.Test.YtlopdbhjdijlmaaQNames2
import Derived.Test.YtlopdbhjdijlmaaQExact1
import Derived.Test.YtlopdbhjdijlmaaQRead1

namespace Go.Proofs.Ytlopdbhjdijlmaa
set_option linter.unusedSimpArgs false
set_option linter.unusedVariables false

def headN (S : Sh) (at_ : Int) : Ino := ⟨S.get at_ % 256, S.get at_ / 256 % 256, S.get at_ / 65536 % 65536, if 1048576 < S.get (at_ + 1) then 1048576 else S.get (at_ + 1), List.replicate 13 0, []⟩
open Classical in
noncomputable def finR2 (S : Sh) (at_ : Nat) (n : Ino) (own : List Nat) : Option (Ino × List Nat) :=
  if RightP n ∧ ExactT S at_ n own then some (n, own) else none
noncomputable def rd2At (S : Sh) (at_ : Nat) : Option (Ino × List Nat) :=
  if (headN S at_).format ≠ 2 then none
  else if (headN S at_).kind = 1 then (runs2 S at_).bind fun r => finR2 S at_ { headN S at_ with bl := r.1 } r.2
  else if (headN S at_).kind = 2 then (names2To S at_ 4).bind fun r => finR2 S at_ { headN S at_ with ents := r.1 } r.2
  else finR2 S at_ (headN S at_) []
noncomputable def rd2 (S : Sh) (i : Int) : Option (Ino × List Nat) := if i < 0 ∨ 32 ≤ i then none else rd2At S (824 + i * 8).toNat

theorem headN_size {S : Sh} (h : S.Ok) (at_ : Int) : 0 ≤ (headN S at_).size ∧ (headN S at_).size ≤ 1048576 := by
  show 0 ≤ (if 1048576 < S.get (at_ + 1) then (1048576 : Int) else S.get (at_ + 1)) ∧ (if 1048576 < S.get (at_ + 1) then (1048576 : Int) else S.get (at_ + 1)) ≤ 1048576
  have := (h.get (at_ + 1)).1
  split <;> omega
theorem headN_bl (S : Sh) (at_ : Int) : (headN S at_).bl = List.replicate 13 0 := rfl
theorem headN_ok {S : Sh} (h : S.Ok) (at_ : Int) : (headN S at_).Ok := by
  have hx := h.get at_
  have hs := headN_size h at_
  refine ⟨?_, ?_, ?_, ?_, by simp [headN_bl], ?_, ?_⟩
  · show i64 (S.get at_ % 256)
    unfold i64; omega
  · show i64 (S.get at_ / 256 % 256)
    unfold i64; omega
  · show i64 (S.get at_ / 65536 % 65536)
    unfold i64; omega
  · unfold i64; omega
  · intro x hx
    rw [headN_bl] at hx
    have := List.eq_of_mem_replicate hx
    subst this
    unfold i64; omega
  · intro x hx
    cases hx
theorem headN_ents {S : Sh} (h : S.Ok) (at_ : Int) {l : List En} (hl : ∀ x ∈ l, x.Ok) : ({ headN S at_ with ents := l } : Ino).Ok := by
  obtain ⟨h1, h2, h3, h4, h5, h6, h7⟩ := headN_ok h at_
  exact ⟨h1, h2, h3, h4, h5, h6, hl⟩
theorem headN_blok {S : Sh} (h : S.Ok) (at_ : Int) {l : List Int} (hl : l.length = 13) (hb : ∀ x ∈ l, 0 ≤ x ∧ x < 256) : ({ headN S at_ with bl := l } : Ino).Ok := by
  obtain ⟨h1, h2, h3, h4, h5, h6, h7⟩ := headN_ok h at_
  exact ⟨h1, h2, h3, h4, hl, fun x hx => by have := hb x hx; unfold i64; omega, h7⟩

theorem runTo_mem (A B : Nat) : ∀ (k : Nat) (l : List Int), B + k ≤ 256 → (∀ x ∈ l, 0 ≤ x ∧ x < 256) → ∀ x ∈ runTo l A B k, 0 ≤ x ∧ x < 256 := by
  intro k
  induction k with
  | zero => intro l _ h; exact h
  | succ k ih =>
    intro l hk h x hx
    simp only [runTo] at hx
    rcases List.mem_or_eq_of_mem_set hx with h1 | h1
    · exact ih l (by omega) h x h1
    · rw [h1]; omega
theorem rfold_mem (ws : List Int) : ∀ k l, rfold ws k = some l → ∀ x ∈ l, 0 ≤ x ∧ x < 256 := by
  intro k
  induction k with
  | zero =>
    intro l h x hx
    simp only [rfold, Option.some.injEq] at h
    rw [← h] at hx
    have := List.eq_of_mem_replicate hx
    omega
  | succ k ih =>
    intro l h
    simp only [rfold] at h
    cases hr : rfold ws k with
    | none => rw [hr] at h; cases h
    | some l1 =>
      rw [hr, Option.bind_some] at h
      have h1 := ih l1 hr
      split at h
      · simp only [Option.some.injEq] at h
        rw [← h]
        exact h1
      · split at h
        · rename_i hb
          simp only [Option.some.injEq] at h
          rw [← h]
          unfold runSet
          exact runTo_mem _ _ _ _ ((runB_iff _).1 hb).2.2.1 h1
        · cases h
theorem runs2_law {S : Sh} {at_ : Int} {r : List Int × List Nat} (h : runs2 S at_ = some r) : r.1.length = 13 ∧ (∀ x ∈ r.1, 0 ≤ x ∧ x < 256) ∧ ∀ b ∈ r.2, b < 256 := by
  unfold runs2 at h
  cases hf : rfold (wordsR S at_) (wordsR S at_).length with
  | none => rw [hf] at h; cases h
  | some l =>
    rw [hf, Option.map_some, Option.some.injEq] at h
    rw [← h]
    refine ⟨rfold_len _ _ _ hf, rfold_mem _ _ _ hf, fun b hb => ?_⟩
    dsimp only at hb
    unfold ownR at hb
    split at hb
    · rw [List.mem_singleton] at hb
      rw [hb]
      exact numI_lt _
    · cases hb

theorem wtext_le {n : Nat} (h : isName n = true) : (wtext n).size ≤ maxLen := by
  simp only [isName, Bool.and_eq_true, decide_eq_true_eq] at h
  have hw : (wtext n).size ≤ 8 := by
    unfold wtext
    rw [bstr_size, List.length_take]
    simp [PackM.bytes]
    omega
  unfold maxLen
  omega
theorem entsC_ok {S : Sh} (hS : S.Ok) (b : Nat) : ∀ (f k : Nat) (out out2 : List En), entsC S b f k out = some out2 → (∀ x ∈ out, x.Ok) → ∀ x ∈ out2, x.Ok := by
  intro f
  induction f with
  | zero => intro k out out2 h ho; simp only [entsC, Option.some.injEq] at h; rw [← h]; exact ho
  | succ f ih =>
    intro k out out2 h ho
    simp only [entsC] at h
    split at h
    · simp only [Option.some.injEq] at h; rw [← h]; exact ho
    · split at h
      · rename_i hc
        refine ih _ _ _ h (fun x hx => ?_)
        rcases List.mem_append.1 hx with h1 | h1
        · exact ho x h1
        · rw [List.mem_singleton] at h1
          subst h1
          have hg := (hS.get (1080 + (b : Int) * 8 + 2 + 2 * (k : Int))).1
          refine ⟨wtext_le hc.1, ?_⟩
          have := hc.2
          dsimp only
          omega
      · cases h
theorem chainC_ok {S : Sh} (hS : S.Ok) : ∀ (f b : Nat) (out : List En) (own : List Nat) (r : List En × List Nat), chainC S f b out own = some r → b < 256 → (∀ x ∈ out, x.Ok) → (∀ x ∈ own, x < 256) → (∀ x ∈ r.1, x.Ok) ∧ ∀ x ∈ r.2, x < 256 := by
  intro f
  induction f with
  | zero => intro b out own r h; simp only [chainC] at h; cases h
  | succ f ih =>
    intro b out own r h hb h1 h2
    simp only [chainC] at h
    split at h
    · simp only [Option.some.injEq] at h
      rw [← h]
      exact ⟨h1, h2⟩
    · split at h
      · cases h
      · cases he : entsC S b 3 0 out with
        | none => rw [he] at h; cases h
        | some out2 =>
          rw [he, Option.bind_some] at h
          refine ih _ _ _ _ h (numI_lt _) (entsC_ok hS b 3 0 out out2 he h1) (fun x hx => ?_)
          rcases List.mem_append.1 hx with h3 | h3
          · exact h2 x h3
          · rw [List.mem_singleton] at h3; omega
theorem insL_mem {l : List En} {x y : En} (h : y ∈ insL l x) : y ∈ l ∨ y = x := by
  unfold insL at h
  rcases List.mem_append.1 h with h1 | h1
  · exact .inl (List.mem_of_mem_take h1)
  · rcases List.mem_cons.1 h1 with h2 | h2
    · exact .inr h2
    · exact .inl (List.mem_of_mem_drop h2)
theorem foldl_ins_mem (l : List En) : ∀ (out : List En) (y : En), y ∈ l.foldl insL out → y ∈ out ∨ y ∈ l := by
  induction l with
  | nil => intro out y h; exact .inl h
  | cons x l ih =>
    intro out y h
    rw [List.foldl_cons] at h
    rcases ih _ _ h with h1 | h1
    · rcases insL_mem h1 with h2 | h2
      · exact .inl h2
      · exact .inr (by rw [h2]; exact List.mem_cons_self)
    · exact .inr (List.mem_cons_of_mem _ h1)
theorem names2_law {S : Sh} (hS : S.Ok) (at_ : Nat) : ∀ (k : Nat) (r : List En × List Nat), names2To S at_ k = some r → (∀ x ∈ r.1, x.Ok) ∧ (∀ b ∈ r.2, b < 256) := by
  intro k
  induction k with
  | zero =>
    intro r h
    simp only [names2To, Option.some.injEq] at h
    rw [← h]
    exact ⟨fun x hx => (by cases hx), fun x hx => (by cases hx)⟩
  | succ k ih =>
    intro r h
    simp only [names2To] at h
    cases hr : names2To S at_ k with
    | none => rw [hr] at h; cases h
    | some q =>
      rw [hr, Option.bind_some] at h
      obtain ⟨i1, i2⟩ := ih q hr
      unfold namesStep2 at h
      cases hc : chain2 S (numI (S.get ((at_ : Int) + 2 + (k : Int)))) with
      | none => rw [hc] at h; cases h
      | some c =>
        rw [hc, Option.bind_some] at h
        obtain ⟨c1, c2⟩ := chainC_ok hS 26 _ [] [] c hc (numI_lt _) (fun x hx => by cases hx) (fun x hx => by cases hx)
        split at h
        · cases h
        · simp only [Option.some.injEq] at h
          rw [← h]
          refine ⟨fun x hx => ?_, fun b hb => ?_⟩
          · rcases foldl_ins_mem _ _ _ hx with h1 | h1
            · exact i1 x h1
            · exact c1 x h1
          · rcases List.mem_append.1 hb with h1 | h1
            · exact i2 b h1
            · exact c2 b h1
end Go.Proofs.Ytlopdbhjdijlmaa
