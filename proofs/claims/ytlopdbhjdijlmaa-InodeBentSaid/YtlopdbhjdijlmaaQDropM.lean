/-
  What inode.All tells and inode.Drop does, plainly. Nothing is assumed.
-/
import Derived.Test.YtlopdbhjdijlmaaQInoM
import Derived.Test.YtlopdbhjdijlmaaQPut2

namespace Go.Proofs.Ytlopdbhjdijlmaa
set_option linter.unusedSimpArgs false
set_option linter.unusedVariables false

/-- A file's blocks that are some. -/
def blkN (l : List Int) : List Nat := (l.filter fun x => decide (x ≠ 0)).map Int.toNat
theorem blkN_snoc (l : List Int) (x : Int) : blkN (l ++ [x]) = if x = 0 then blkN l else blkN l ++ [x.toNat] := by
  unfold blkN
  rw [List.filter_append, List.map_append]
  by_cases h : x = 0
  · rw [if_pos h]; simp [h]
  · rw [if_neg h]; simp [h]
theorem blkN_len (l : List Int) : (blkN l).length ≤ l.length := by
  unfold blkN
  rw [List.length_map]
  exact List.length_filter_le _ _
noncomputable def allI (S : Sh) (i : Int) : List Nat := match getR S i with | some r => r.2 ++ blkN r.1.bl | none => []
noncomputable def dropI (S : Sh) (i : Int) : Int × Sh := if getE S i = 0 then (0, putN (giveS S (allI S i)) (824 + i * 8) (fun _ => 0) 8) else (getE S i, S)

theorem getR_law {S : Sh} (hS : S.Ok) {i : Int} {m : Ino} {xs : List Nat} (h : getR S i = some (m, xs)) : (0 ≤ i ∧ i < 32) ∧ m.Ok ∧ RightP m ∧ (∀ b ∈ xs, b < 256) ∧ xs.length ≤ 40 := by
  have ho := ownI_law hS i
  have e : ownI S i = xs := by unfold ownI; rw [h]
  rw [e] at ho
  unfold getR at h
  split at h
  · cases h
  · split at h
    · cases h
    · unfold rdI at h
      split at h
      · obtain ⟨h1, h2, h3, -, -⟩ := rd2_some hS h
        exact ⟨h1, h2, h3, ho.1, ho.2⟩
      · obtain ⟨h1, h2, h3, -, -⟩ := rd1_some hS h
        exact ⟨h1, h2, h3, ho.1, ho.2⟩
theorem bl_range {n : Ino} (hr : RightP n) (k : Nat) (hk : k < 13) : 0 ≤ n.bl.getD k 0 ∧ n.bl.getD k 0 < 256 := by
  rcases hr.2.2.2 with ⟨-, h, -⟩ | ⟨-, -, -, -, h⟩
  · exact (h k hk).1
  · rw [h k hk]; omega
theorem blkN_mem {n : Ino} (hn : n.bl.length = 13) (hr : RightP n) : ∀ b ∈ blkN n.bl, b < 256 := by
  intro b hb
  unfold blkN at hb
  obtain ⟨x, hx, rfl⟩ := List.mem_map.1 hb
  obtain ⟨q, hq, rfl⟩ := List.mem_iff_getElem.1 (List.mem_filter.1 hx).1
  have := bl_range hr q (by omega)
  rw [List.getD_eq_getElem?_getD, List.getElem?_eq_getElem hq] at this
  simp only [Option.getD_some] at this
  omega
theorem allI_law {S : Sh} (hS : S.Ok) (i : Int) : (∀ b ∈ allI S i, b < 256) ∧ (allI S i).length ≤ 53 := by
  unfold allI
  cases hr : getR S i with
  | none => exact ⟨fun b hb => (by cases hb), Nat.zero_le _⟩
  | some r =>
    obtain ⟨m, xs⟩ := r
    obtain ⟨h1, h2, h3, h4, h5⟩ := getR_law hS hr
    dsimp only
    refine ⟨fun b hb => ?_, ?_⟩
    · rcases List.mem_append.1 hb with h | h
      · exact h4 b h
      · exact blkN_mem h2.len h3 b h
    · have := blkN_len m.bl
      have := h2.len
      rw [List.length_append]
      omega
theorem getE_range {S : Sh} {i : Int} (h : getE S i = 0) : 0 ≤ i ∧ i < 32 := by
  unfold getE at h
  split at h
  · cases h
  · omega
theorem dropI_free {S : Sh} {i : Int} (h : getE S i = 0) : (dropI S i).1 = 0 ∧ freeI (dropI S i).2 i = true := by
  have hi := getE_range h
  unfold dropI
  rw [if_pos h]
  refine ⟨rfl, (freeI_iff _ _).2 ⟨hi, fun j hj => ?_⟩⟩
  show (putN (giveS S (allI S i)) (824 + i * 8) (fun _ => 0) 8).get _ = 0
  rw [putN_get _ _ _ (by omega) 8 (by omega), if_pos (by omega)]
theorem getE_none {S : Sh} {i : Int} (h : getE S i ≠ 0) : getR S i = none := by
  rcases getE_cases S i with ⟨h1, -⟩ | ⟨h1, -⟩
  · exact absurd h1 h
  · exact h1
theorem getE_some {S : Sh} {i : Int} (h : getE S i = 0) : ∃ m xs, getR S i = some (m, xs) := by
  rcases getE_cases S i with ⟨-, ⟨m, xs⟩, h1⟩ | ⟨-, h1⟩
  · exact ⟨m, xs, h1⟩
  · omega
end Go.Proofs.Ytlopdbhjdijlmaa
