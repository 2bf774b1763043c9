/-
  What the walk of InodePlays leans on. No condition.
-/
import Derived.Test.YtlopdbhjdijlmaaQPlay8
import Derived.Test.YtlopdbhjdijlmaaQOpenSt
import Derived.Test.YtlopdbhjdijlmaaQFew6
import Derived.Test.YtlopdbhjdijlmaaQLayGet
import Derived.Test.YtlopdbhjdijlmaaQAll8

namespace Go.Proofs.Ytlopdbhjdijlmaa
set_option linter.unusedSimpArgs false
set_option linter.unusedVariables false

theorem OpB.set {w : World} {B : Nat} {kd i : Int} {n : Ino} {ev : Value} (h : OpB w B kd i n ev) {m : Ino} (hm : m.bl.length = 13) (v : Value) : OpB (w.setCells B 2 (inoL m v)) B kd i m v := by
  obtain ⟨h1, h2⟩ := h
  have h3 := heap_setCells_mid B 46 (inoL m v) [.int .u8 kd, .int .i64 i] (inoL n ev) [] w (by rw [List.append_nil]; exact h1) (by rw [inoL_len h2, inoL_len hm])
  rw [List.append_nil] at h3
  exact ⟨h3, hm⟩
theorem OpB.all {w : World} {B : Nat} {kd i : Int} {n : Ino} {ev : Value} (h : OpB w B kd i n ev) : w.rangeAt B 0 (opL kd i n ev) := by
  intro j u hj
  rw [cell_of_row _ _ _ _ _ _ h.1, Nat.zero_add]
  simpa using hj
theorem OpB.there {w : World} {B : Nat} {kd i : Int} {n : Ino} {ev : Value} (h : OpB w B kd i n ev) (o k : Nat) (hk : o + k ≤ 20) : w.there B o k := by
  intro j hj
  refine ⟨?_, frozen_of_row _ _ _ _ _ h.1⟩
  have hl := opL_len (kd := kd) (i := i) (ev := ev) h.2
  rw [cell_of_row _ _ _ _ _ _ h.1, Array.getElem?_eq_getElem (show o + j < (opL kd i n ev).toArray.size by rw [List.size_toArray]; omega)]
  rfl
theorem opL_one {kd i : Int} {n : Ino} {ev : Value} (h : ev.oneCell' = true) : ∀ u ∈ opL kd i n ev, u.oneCell' = true := by
  intro u hu
  unfold opL at hu
  rcases List.mem_cons.1 hu with rfl | hu
  · rfl
  · rcases List.mem_cons.1 hu with rfl | hu
    · rfl
    · exact inoL_one h u hu
theorem Try.info20 : (Try.prog.info? 46).map (·.size) = some 20 := by kernel_rfl
abbrev z20 : Array Value := #[.int .u8 0, .int .i64 0, .int .i64 0, .int .i64 0, .int .i64 0, .int .i64 0, .int .i64 0, .int .i64 0, .int .i64 0, .int .i64 0, .int .i64 0, .int .i64 0, .int .i64 0, .int .i64 0, .int .i64 0, .int .i64 0, .int .i64 0, .int .i64 0, .int .i64 0, .slice none 0 0]
theorem op_zero : z20 = (opL 0 0 ino0 (.slice none 0 0)).toArray := rfl

theorem S6_zero8 (a : Nat → Int) (j : Int) (hj : 820 ≤ j) : (S6 a).get j = 0 := by
  by_cases h : j < 3128
  · have e : j = ((j.toNat : Nat) : Int) := by omega
    rw [e, get_natx _ _ (by omega), S6_now a _ (by omega)]
    unfold part5
    rw [if_neg (by omega)]
  · unfold Sh.get
    rw [if_neg (by omega)]

theorem dropI_was {S : Sh} (hS : S.Ok) (i : Int) : (dropI S i).2.was.length ≤ S.was.length + 3100 := by
  unfold dropI
  split
  · have h1 := giveS_was (allI S i) S
    have h2 := putN_was (giveS S (allI S i)) (824 + i * 8) (fun _ => 0) 8
    have h3 := (allI_law hS i).2
    dsimp only
    omega
  · dsimp only; omega
theorem newI_was {S : Sh} (hS : S.Ok) {n : Ino} (hn : n.Ok) : ∀ g k, (newI S n k g).2.2.was.length ≤ S.was.length + 3100 := by
  intro g
  induction g with
  | zero => intro k; show S.was.length ≤ _; omega
  | succ g ih =>
    intro k
    unfold newI
    split
    · exact putI_was hS hn
    · exact ih (k + 1)
theorem playI_was {S : Sh} (hS : S.Ok) (kd i : Int) {n : Ino} (hn : n.Ok) : (playI S kd i n).2.2.was.length ≤ S.was.length + 3100 := by
  unfold playI
  split
  · exact putI_was hS hn
  · split
    · exact newI_was hS hn 32 0
    · exact dropI_was hS i

/-- What the table's inodes hold lies where it was handed in. -/
theorem do_old {f : Nat → Ino} {ev : Nat → Value} {n : Ino} {v : Value} {k0 : Nat} (he : ∀ i, i < 32 → (f i).ents ≠ [] → ∀ g, (ev i).ownBlock = some g → g < k0) (hv : n.ents ≠ [] → ∀ g, v.ownBlock = some g → g < k0) (kd i room : Int) :
    ∀ j, j < 32 → ((doT f ev kd i n v room).1 j).ents ≠ [] → ∀ g, ((doT f ev kd i n v room).2.1 j).ownBlock = some g → g < k0 := by
  have hset : ∀ (k : Nat) (m : Ino) (x : Value), (m.ents ≠ [] → ∀ g, x.ownBlock = some g → g < k0) → ∀ j, j < 32 → ((setT f k m) j).ents ≠ [] → ∀ g, ((setT ev k x) j).ownBlock = some g → g < k0 := fun k m x hx j hj => by
    by_cases e : j = k
    · subst e; rw [setT_same, setT_same]; exact hx
    · rw [setT_ne _ _ e, setT_ne _ _ e]; exact he j hj
  have hput : ∀ j : Int, ∀ q, q < 32 → ((putT f ev j n v room).1 q).ents ≠ [] → ∀ g, ((putT f ev j n v room).2.1 q).ownBlock = some g → g < k0 := fun j => by
    unfold putT
    split
    · exact he
    · split
      · exact he
      · split
        · exact he
        · exact hset _ _ _ hv
  unfold doT
  split
  · cases firstT f 0 32 with
    | none => exact he
    | some k => exact hput _
  · split
    · split
      · exact he
      · split
        · exact he
        · exact hset _ _ _ (fun h => absurd rfl h)
    · exact hput _
end Go.Proofs.Ytlopdbhjdijlmaa
