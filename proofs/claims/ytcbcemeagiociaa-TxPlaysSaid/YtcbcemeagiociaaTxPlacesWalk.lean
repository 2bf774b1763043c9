/-
  The walk of the law TxPlaces: it answers true, whatever number comes in; nothing that was there is written.
-/
import Derived.Test.YtcbcemeagiociaaTx2
namespace Go.Proofs.Ytcbcemeagiociaa
open Go.ChangeShapes Go.WideShapes Go.ChangeAt Go.RowKit
set_option linter.unusedSimpArgs false
set_option linter.unusedVariables false

theorem awake4 (w : World) : Calls Try.prog 20 #[] w fun e w' => e = .returned (.bool true) ∧ Below w.heap.size w w' := by
  go_enter Try.func20, Try.ntmps20
  go_wp2_with fail
  refine (tx_new (HoldsU.nil _) (by simp)).mono ?_
  rintro e w1 ⟨p, rfl, hS, hb⟩
  have HS := Lib.hid hS
  have HB := Lib.hid hb
  clear hS hb
  go_wp2_with fail
  refine (sheet_put HS.out (by simp [Sh.new]) 3 4 (by omega) (by omega)).mono ?_
  rintro e w2 ⟨rfl, hS2, hm2⟩
  have hfin : ((Sh.new []).put 3 4).get 3 = 4 := by rfl
  have HF := Lib.hid hfin
  have HS2 := Lib.hid hS2
  have HM2 := Lib.hid hm2
  clear hfin hS2 hm2
  go_wp2_with (first | (go_at_call 31; refine (sheet_get HS2.out 3).mono ?_; rintro e w' ⟨rfl, rfl⟩; rw [HF.out]) | (go_at_call 18; refine (block_any 1 _).mono ?_; rintro e w' ⟨rfl, rfl⟩) | (go_at_call 19; refine (inode_any 1 _).mono ?_; rintro e w' ⟨rfl, rfl⟩))
  go_ret
  refine ⟨rfl, ?_⟩
  have hb := HB.out
  exact hb.trans (HM2.out.below hb.size (fun b h => by rcases h with h | h; exact h.elim; exact h.1))

theorem law_places (n : Int) (w : World) : Calls Try.prog 4 #[.int .i64 n] w fun e w' => e = .returned (.bool true) ∧ Below w.heap.size w w' := by
  rcases (show n < 0 ∨ 256 ≤ n ∨ (0 ≤ n ∧ n < 32) ∨ (32 ≤ n ∧ n < 256) by omega) with h | h | ⟨h0, h1⟩ | ⟨h0, h1⟩
  · have hb : Hid ((if n < 0 ∨ 256 ≤ n then (-1 : Int) else 1080 + n * 8) = -1) := if_pos (.inl h)
    have hi : Hid ((if n < 0 ∨ 32 ≤ n then (-1 : Int) else 824 + n * 8) = -1) := if_pos (.inl h)
    go_enter Try.func4, Try.ntmps4
    go_wp2_with (first | (go_at_call 18; refine (block_any _ _).mono ?_; rintro e w' ⟨rfl, rfl⟩; rw [hb.out]) | (go_at_call 19; refine (inode_any _ _).mono ?_; rintro e w' ⟨rfl, rfl⟩; rw [hi.out]) | (go_at_call 20; refine (awake4 _).mono ?_; rintro e w1 ⟨rfl, hbel⟩))
    go_ret
    exact ⟨rfl, hbel⟩
  · have hb : Hid ((if n < 0 ∨ 256 ≤ n then (-1 : Int) else 1080 + n * 8) = -1) := if_pos (.inr h)
    have hi : Hid ((if n < 0 ∨ 32 ≤ n then (-1 : Int) else 824 + n * 8) = -1) := if_pos (by omega)
    have h0 : 0 ≤ n := by omega
    go_enter Try.func4, Try.ntmps4
    go_wp2_with (first | (go_at_call 18; refine (block_any _ _).mono ?_; rintro e w' ⟨rfl, rfl⟩; rw [hb.out]) | (go_at_call 19; refine (inode_any _ _).mono ?_; rintro e w' ⟨rfl, rfl⟩; rw [hi.out]) | (go_at_call 20; refine (awake4 _).mono ?_; rintro e w1 ⟨rfl, hbel⟩))
    go_ret
    exact ⟨rfl, hbel⟩
  · have hb : Hid ((if n < 0 ∨ 256 ≤ n then (-1 : Int) else 1080 + n * 8) = 1080 + n * 8) := if_neg (by omega)
    have hi : Hid ((if n < 0 ∨ 32 ≤ n then (-1 : Int) else 824 + n * 8) = 824 + n * 8) := if_neg (by omega)
    have e1 : ((1080 + n * 8 : Int) == 1080 + 8 * n) = true := by simp; omega
    have e2 : ((824 + n * 8 : Int) == 824 + 8 * n) = true := by simp; omega
    have e3 : ((824 + n * 8 : Int) == -1) = false := by simp; omega
    go_enter Try.func4, Try.ntmps4
    go_wp2_with (first | (go_at_call 18; refine (block_any _ _).mono ?_; rintro e w' ⟨rfl, rfl⟩; rw [hb.out]) | (go_at_call 19; refine (inode_any _ _).mono ?_; rintro e w' ⟨rfl, rfl⟩; rw [hi.out]) | (go_at_call 20; refine (awake4 _).mono ?_; rintro e w1 ⟨rfl, hbel⟩))
    go_ret
    exact ⟨by simp; omega, hbel⟩
  · have hb : Hid ((if n < 0 ∨ 256 ≤ n then (-1 : Int) else 1080 + n * 8) = 1080 + n * 8) := if_neg (by omega)
    have hi : Hid ((if n < 0 ∨ 32 ≤ n then (-1 : Int) else 824 + n * 8) = -1) := if_pos (by omega)
    have e1 : ((1080 + n * 8 : Int) == 1080 + 8 * n) = true := by simp; omega
    have e2 : ((-1 : Int) == 824 + 8 * n) = false := by simp; omega
    have hn0 : 0 ≤ n := by omega
    go_enter Try.func4, Try.ntmps4
    go_wp2_with (first | (go_at_call 18; refine (block_any _ _).mono ?_; rintro e w' ⟨rfl, rfl⟩; rw [hb.out]) | (go_at_call 19; refine (inode_any _ _).mono ?_; rintro e w' ⟨rfl, rfl⟩; rw [hi.out]) | (go_at_call 20; refine (awake4 _).mono ?_; rintro e w1 ⟨rfl, hbel⟩))
    go_ret
    exact ⟨by simp; omega, hbel⟩
end Go.Proofs.Ytcbcemeagiociaa
