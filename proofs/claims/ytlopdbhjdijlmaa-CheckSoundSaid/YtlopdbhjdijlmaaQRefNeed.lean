/-
  imagoref06.Need of inodes that are right: a contract.
-/
import Derived.Test.YtlopdbhjdijlmaaQLay2

namespace Go.Proofs.Ytlopdbhjdijlmaa
open Go.ChangeShapes Go.WideShapes Go.ChangeAt Go.RowKit
set_option linter.unusedSimpArgs false
set_option linter.unusedVariables false

/-- A number behind the fourth is there, of the first so many. -/
def LongTo (l : List Int) (m : Nat) : Prop := ∃ k, 5 ≤ k ∧ k < m ∧ l.getD k 0 ≠ 0
theorem LongTo.mono {l : List Int} {m : Nat} (h : LongTo l m) : LongTo l (m + 1) := by
  obtain ⟨k, h1, h2, h3⟩ := h
  exact ⟨k, h1, by omega, h3⟩
theorem longTo_succ {l : List Int} {m : Nat} (h : ¬ LongTo l m) (h0 : l.getD m 0 = 0) : ¬ LongTo l (m + 1) := by
  rintro ⟨k, h1, h2, h3⟩
  by_cases e : k = m
  · subst e; exact h3 h0
  · exact h ⟨k, h1, by omega, h3⟩

set_option maxRecDepth 20000 in
set_option maxHeartbeats 1000000 in
theorem ref_need {w : World} {n : Ino} {ev : Value} (hn : n.Ok) (he : HoldsE w ev n.ents) (hr : RightP n) :
    Calls Try.prog 63 #[.agg (inoA n ev)] w fun e w' => e = .returned (.tuple #[.int .i64 (need1 n : Nat), .int .i64 (more1 n : Nat)]) ∧ Below w.heap.size w w' := by
  have hb := InoB.new w hn.len ev
  have HB := Lib.hid hb
  have HR := Lib.hid hr
  obtain ⟨ao, c, rfl, e1, e2, e3, -⟩ := he
  have c17 := hb.at.ev
  simp only [Nat.zero_add] at c17
  obtain ⟨L, hL⟩ : ∃ L, L = n.ents.length := ⟨_, rfl⟩
  have hL24 := hr.ents
  rw [← hL] at HB e1 c17 hL24 ⊢
  obtain ⟨nd, hnd⟩ : ∃ nd, nd = need1 n := ⟨_, rfl⟩
  have hnd6 : nd ≤ 6 := by rw [hnd]; exact need1_le hr
  have hLs : 4 * nd < L + 4 ∧ L ≤ 4 * nd := by
    have := hnd
    unfold need1 at this
    rw [← hL] at this
    omega
  rw [← hnd]
  unfold maxLen at e2
  have hmo : ((5 < nd ∨ LongTo n.bl 13) → more1 n = 1) ∧ (¬ (5 < nd ∨ LongTo n.bl 13) → more1 n = 0) := by
    have h1 : LongTo n.bl 13 ↔ LongP n.bl := Iff.rfl
    rw [hnd, h1]
    unfold more1
    constructor
    · intro h; rw [if_pos h]
    · intro h; rw [if_neg h]
  have HMO := Lib.hid hmo
  have HLS := Lib.hid hLs
  have HBEL : Hid (Below w.heap.size w (w.alloc (.cells (inoA n (.slice ao L c)) 25))) := (Below.refl _ _).alloc (Nat.le_refl _) _
  clear hb hn e3 hL hr hnd hmo hLs
  go_enter Try.func63, Try.ntmps63
  go_wp2_with fail
  generalize w.alloc (.cells (inoA n (.slice ao L c)) 25) = w0 at *
  go_loopg [4] nd (fun gk iv wr => ∃ k : Nat, k + gk = nd ∧ iv = .int .i64 k ∧ w0 = wr)
  case atStart => exact ⟨0, by omega, rfl, rfl⟩
  case round =>
    obtain ⟨k, hk, rfl, rfl⟩ := hrel
    have hk6 : (k : Int) ≤ 6 := by omega
    have hk0 : (0 : Int) ≤ (k : Int) := Int.natCast_nonneg _
    by_cases hlt : k < nd
    · have hki : 4 * (k : Int) < (L : Int) := by have := HLS.out; omega
      go_wp2_with fail
      go_roundg (gk - 1)
      case measure => omega
      case rel => exact ⟨k + 1, by omega, by go_num, rfl⟩
    · have hki : ¬ 4 * (k : Int) < (L : Int) := by have := HLS.out; omega
      obtain rfl : k = nd := by omega
      go_wp2_with fail
      go_loopg [5, 6] 8 (fun gk lv iv wr => ∃ (j : Nat) (lm : Int), j + gk = 13 ∧ 5 ≤ j ∧ iv = .int .i64 j ∧ lv = .int .i64 lm ∧ Hid (lm = 1 ∧ (5 < k ∨ LongTo n.bl j) ∨ lm = 0 ∧ (j = 5 ∨ ¬ 5 < k) ∧ ¬ LongTo n.bl j) ∧ w0 = wr)
      case atStart => exact ⟨5, 0, by omega, by omega, rfl, rfl, (.inr ⟨rfl, .inl rfl, fun ⟨j, h1, h2, _⟩ => by omega⟩), rfl⟩
      case round =>
        obtain ⟨j, lm, hj, hj5, rfl, rfl, HLM, rfl⟩ := hrel
        by_cases hlt2 : j < 13
        · have hji : (j : Int) < 13 := by omega
          have d1 := HB.out.at.bl j hlt2
          rw [Nat.zero_add] at d1
          have hxr := HR.out.blk j hlt2
          obtain ⟨x, hx⟩ : ∃ x, x = n.bl.getD j 0 := ⟨_, rfl⟩
          rw [← hx] at d1 hxr
          have HXX := Lib.hid hx
          obtain ⟨x0, x1⟩ := hxr
          clear hx
          by_cases h0 : 0 < x
          · have HX0 := Lib.hid h0
            go_wp2_with fail
            go_roundg (gk - 1)
            case measure => omega
            case rel => exact ⟨j + 1, 1, by omega, by omega, by go_num, rfl, .inl ⟨rfl, .inr ⟨j, hj5, by omega, by rw [← HXX.out]; have := HX0.out; omega⟩⟩, rfl⟩
          · have hxz : x = 0 := by omega
            have HXZ := Lib.hid hxz
            clear hxz
            by_cases h5 : 5 < k
            · have h5i : (5 : Int) < (k : Int) := by omega
              have H5 := Lib.hid h5
              go_wp2_with fail
              go_roundg (gk - 1)
              case measure => omega
              case rel => exact ⟨j + 1, 1, by omega, by omega, by go_num, rfl, .inl ⟨rfl, .inl H5.out⟩, rfl⟩
            · have h5i : ¬ (5 : Int) < (k : Int) := by omega
              have H5 := Lib.hid h5
              go_wp2_with fail
              go_roundg (gk - 1)
              case measure => omega
              case rel =>
                refine ⟨j + 1, lm, by omega, by omega, by go_num, rfl, ?_, rfl⟩
                rcases HLM.out with ⟨rfl, h1⟩ | ⟨rfl, h1, h2⟩
                · refine .inl ⟨rfl, ?_⟩
                  rcases h1 with h1 | h1
                  · exact .inl h1
                  · exact .inr h1.mono
                · exact .inr ⟨rfl, .inr H5.out, longTo_succ h2 (by rw [← HXX.out]; exact HXZ.out)⟩
        · have hge : ¬ (j : Int) < 13 := by omega
          obtain rfl : j = 13 := by omega
          go_wp2_with fail
          go_ret2
          refine ⟨?_, HBEL.out⟩
          have hm : lm = ((more1 n : Nat) : Int) := by
            rcases HLM.out with ⟨rfl, h1⟩ | ⟨rfl, h1, h2⟩
            · rw [HMO.out.1 h1]; rfl
            · rw [HMO.out.2 (fun h => by rcases h with h | h; exact h1.elim (by omega) (fun hh => hh h); exact h2 h)]; rfl
          rw [hm]
          rfl

end Go.Proofs.Ytlopdbhjdijlmaa
