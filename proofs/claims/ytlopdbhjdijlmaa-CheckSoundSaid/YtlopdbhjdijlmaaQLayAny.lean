/-
  fmt1.Lay, whatever the inode: one contract; laid behind one another upon noughts. No condition but the sheet.
-/
import Derived.Test.YtlopdbhjdijlmaaQLay2
import Derived.Test.YtlopdbhjdijlmaaQLayGet

namespace Go.Proofs.Ytlopdbhjdijlmaa
open Go.ChangeShapes Go.WideShapes Go.ChangeAt Go.RowKit
set_option linter.unusedSimpArgs false
set_option linter.unusedVariables false

open Classical in
noncomputable def layE (S : Sh) (i : Int) (n : Ino) : Int := if LayBad i n then 1 else if need1 n + more1 n ≤ freeN S then 0 else 7
open Classical in
noncomputable def layS (S : Sh) (i : Int) (n : Ino) : Sh := if LayBad i n then S else if need1 n + more1 n ≤ freeN S then lay1S S i n else S

theorem LayBad.not {i : Int} {n : Ino} (h : ¬ LayBad i n) : (0 ≤ i ∧ i < 32) ∧ RightP n ∧ n.format = 1 := by
  unfold LayBad at h
  refine ⟨⟨?_, ?_⟩, ?_, ?_⟩
  · omega
  · omega
  · exact Classical.byContradiction fun hc => h (.inr (.inr (.inl hc)))
  · exact Classical.byContradiction fun hc => h (.inr (.inr (.inr hc)))

theorem lay1_any {w : World} {p : Nat} {D : Nat → Prop} {S : Sh} (h : SheetAt w p D S) (hlen : S.was.length + 4000 < 1099511627776) (i : Int) {n : Ino} {ev : Value} (hn : n.Ok) (he : HoldsE w ev n.ents) (hed : n.ents ≠ [] → ∀ g, ev.ownBlock = some g → ¬ D g) :
    Calls Try.prog 56 #[.pointer (some ⟨p, 0, none⟩), .int .i64 i, .agg (inoA n ev)] w fun e w' => e = .returned (.int .i64 (layE S i n)) ∧ ShStep w p D w' (layS S i n) := by
  unfold layE layS
  by_cases hb : LayBad i n
  · rw [if_pos hb, if_pos hb]
    exact lay1_bad h i hn he hb
  · rw [if_neg hb, if_neg hb]
    obtain ⟨h1, h2, h3⟩ := LayBad.not hb
    exact lay1_ok h hlen i h1.1 h1.2 hn he hed h2 h3

theorem layS_was (S : Sh) (h : S.Ok) (i : Int) (n : Ino) (hl : n.bl.length = 13) : (layS S i n).was.length ≤ S.was.length + 2400 := by
  unfold layS
  by_cases hb : LayBad i n
  · rw [if_pos hb]; omega
  · rw [if_neg hb]
    obtain ⟨h1, h2, h3⟩ := LayBad.not hb
    split
    · rename_i hf
      exact lay1S_ok S h i h1 n h2 hl hf
    · omega

/-- Two inodes that are laid behind one another upon noughts. -/
structure BothLaid (T : Sh) (a b : Ino) (xs ys : List Nat) : Prop where
  la : LaidI T 5 a xs
  lb : LaidI T 6 b ys
  ap : ∀ x ∈ xs, ∀ y ∈ ys, x ≠ y
  ra : RightP a
  rb : RightP b
  fa : a.format = 1
  fb : b.format = 1

theorem both_cases (S : Sh) (hS : freeN S = 255) (a b : Ino) :
    layE S 5 a = 1 ∨ (layE S 5 a = 0 ∧ layE (layS S 5 a) 6 b = 1) ∨ (layE S 5 a = 0 ∧ layE (layS S 5 a) 6 b = 0 ∧ ∃ xs ys, BothLaid (layS (layS S 5 a) 6 b) a b xs ys) := by
  by_cases h1 : LayBad 5 a
  · left; unfold layE; rw [if_pos h1]
  · obtain ⟨i1, r1, f1⟩ := LayBad.not h1
    have n1 := need_le r1
    have e1 : layE S 5 a = 0 := by unfold layE; rw [if_neg h1, if_pos (by omega)]
    have s1 : layS S 5 a = lay1S S 5 a := by unfold layS; rw [if_neg h1, if_pos (by omega)]
    have hfr := lay1S_free S 5 i1 a r1 (by omega)
    rw [s1]
    by_cases h2 : LayBad 6 b
    · right; left; refine ⟨e1, ?_⟩; unfold layE; rw [if_pos h2]
    · obtain ⟨i2, r2, f2⟩ := LayBad.not h2
      have n2 := need_le r2
      have hroom : need1 b + more1 b ≤ freeN (lay1S S 5 a) := by omega
      have e2 : layE (lay1S S 5 a) 6 b = 0 := by unfold layE; rw [if_neg h2, if_pos hroom]
      have s2 : layS (lay1S S 5 a) 6 b = lay1S (lay1S S 5 a) 6 b := by unfold layS; rw [if_neg h2, if_pos hroom]
      right; right
      rw [s2]
      obtain ⟨b1, b2, b3⟩ := both_laid S 5 6 i1 i2 (by decide) a b r1 r2 (by omega) hroom
      exact ⟨e1, e2, _, _, ⟨b1, b2, b3, r1, r2, f1, f2⟩⟩
end Go.Proofs.Ytlopdbhjdijlmaa
