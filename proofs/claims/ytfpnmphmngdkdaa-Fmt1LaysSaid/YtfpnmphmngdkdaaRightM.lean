/-
  What is an inode: plain.
-/
import Derived.Test.YtfpnmphmngdkdaaIno
import Derived.Test.YtfpnmphmngdkdaaPackGood
namespace Go.Proofs.Ytfpnmphmngdkdaa
set_option linter.unusedVariables false

/-- Go's '<=' on strings. -/
def leS (a b : ByteArray) : Bool := Op.bytesLess a.toList b.toList || a.toList == b.toList

/-- How often a number is there among the first. -/
def cntB (l : List Int) (b : Int) : Nat → Nat
  | 0 => 0
  | k + 1 => cntB l b k + if l.getD k 0 = b then 1 else 0

theorem cntB_le (l : List Int) (b : Int) (k : Nat) : cntB l b k ≤ k := by
  induction k with
  | zero => simp [cntB]
  | succ k ih => simp only [cntB]; split <;> omega

theorem cntB_pos (l : List Int) (b : Int) (k : Nat) : 0 < cntB l b k ↔ ∃ j, j < k ∧ l.getD j 0 = b := by
  induction k with
  | zero => simp [cntB]
  | succ k ih =>
    simp only [cntB]
    constructor
    · intro h
      by_cases e : l.getD k 0 = b
      · exact ⟨k, by omega, e⟩
      · rw [if_neg e] at h
        obtain ⟨j, h1, h2⟩ := ih.1 h
        exact ⟨j, by omega, h2⟩
    · rintro ⟨j, h1, h2⟩
      by_cases e : j = k
      · subst e
        rw [if_pos h2]
        omega
      · have := ih.2 ⟨j, by omega, h2⟩
        omega

/-- The first blocks are a file's. -/
def BlTo (n : Ino) (m : Nat) : Prop := ∀ k, k < m → (0 ≤ n.bl.getD k 0 ∧ n.bl.getD k 0 < 256) ∧ (n.bl.getD k 0 ≠ 0 → (k : Int) * 64 < n.size ∧ ∀ j, j < k → n.bl.getD j 0 ≠ n.bl.getD k 0)
def FileOK (n : Ino) : Prop := BlTo n 13 ∧ 0 ≤ n.size ∧ n.size ≤ 832 ∧ n.ents = []

/-- The name ahead of an entry. -/
def prevN (l : List En) (k : Nat) : ByteArray := if k = 0 then ⟨#[]⟩ else (l.getD (k - 1) default).name
def entOK (l : List En) (k : Nat) : Prop := goodB (l.getD k default).name.data.toList = true ∧ leS (l.getD k default).name (prevN l k) = false ∧ 0 ≤ (l.getD k default).ino ∧ (l.getD k default).ino < 32
def EntsTo (l : List En) (m : Nat) : Prop := ∀ k, k < m → entOK l k
def Bl0 (n : Ino) : Prop := ∀ k, k < 13 → n.bl.getD k 0 = 0
def DirOK (n : Ino) : Prop := EntsTo n.ents n.ents.length ∧ n.ents.length ≤ 24 ∧ n.size = n.ents.length ∧ Bl0 n

def RightP (n : Ino) : Prop := (n.format = 1 ∨ n.format = 2) ∧ 0 ≤ n.links ∧ n.links ≤ 65535 ∧ (n.kind = 1 ∧ FileOK n ∨ n.kind = 2 ∧ DirOK n)

open Classical in
noncomputable def fileB (n : Ino) : Bool := decide (FileOK n)
open Classical in
noncomputable def dirB (n : Ino) : Bool := decide (DirOK n)
open Classical in
noncomputable def rightB (n : Ino) : Bool := decide (RightP n)

open Classical in
theorem fileB_true {n : Ino} (h : FileOK n) : fileB n = true := by unfold fileB; exact decide_eq_true h
open Classical in
theorem fileB_false {n : Ino} (h : ¬ FileOK n) : fileB n = false := by unfold fileB; exact decide_eq_false h
open Classical in
theorem dirB_true {n : Ino} (h : DirOK n) : dirB n = true := by unfold dirB; exact decide_eq_true h
open Classical in
theorem dirB_false {n : Ino} (h : ¬ DirOK n) : dirB n = false := by unfold dirB; exact decide_eq_false h
open Classical in
theorem rightB_true {n : Ino} (h : RightP n) : rightB n = true := by unfold rightB; exact decide_eq_true h
open Classical in
theorem rightB_false {n : Ino} (h : ¬ RightP n) : rightB n = false := by unfold rightB; exact decide_eq_false h
open Classical in
theorem of_rightB {n : Ino} (h : rightB n = true) : RightP n := by unfold rightB at h; exact of_decide_eq_true h
open Classical in
theorem not_rightB {n : Ino} (h : rightB n = false) : ¬ RightP n := by unfold rightB at h; exact of_decide_eq_false h

open Classical in
theorem fileB_iff (n : Ino) : fileB n = true ↔ FileOK n := by unfold fileB; exact decide_eq_true_iff
open Classical in
theorem dirB_iff (n : Ino) : dirB n = true ↔ DirOK n := by unfold dirB; exact decide_eq_true_iff
open Classical in
theorem rightB_iff (n : Ino) : rightB n = true ↔ RightP n := by unfold rightB; exact decide_eq_true_iff

theorem BlTo.succ {n : Ino} {k : Nat} (h : BlTo n k) (h0 : 0 ≤ n.bl.getD k 0) (h1 : n.bl.getD k 0 < 256) (h2 : n.bl.getD k 0 ≠ 0 → (k : Int) * 64 < n.size ∧ cntB n.bl (n.bl.getD k 0) k = 0) : BlTo n (k + 1) := by
  intro j hj
  by_cases e : j = k
  · subst e
    refine ⟨⟨h0, h1⟩, fun hb => ⟨(h2 hb).1, fun i hi e => ?_⟩⟩
    have := (cntB_pos n.bl (n.bl.getD j 0) j).2 ⟨i, hi, e⟩
    have := (h2 hb).2
    omega
  · exact h j (by omega)
end Go.Proofs.Ytfpnmphmngdkdaa
