/-
  The reference of the journal: whether pairs may be: a contract. No condition but the bounds that are typed.
-/
import Derived.Test.YtfpnmphmngdkdaaPlogSame
import Derived.StillTailTactics
namespace Go.Proofs.Ytfpnmphmngdkdaa
open Go.ChangeShapes Go.WideShapes Go.ChangeAt Go.RowKit Go.Maps
set_option linter.unusedSimpArgs false
set_option linter.unusedVariables false

theorem goodP_split (ps : List (Int × Int)) : goodP ps = (decide (ps.length ≤ 400) && !(ps.any fun x => !placeB x.1)) := by
  unfold goodP
  congr 1
  rw [List.not_any_eq_all_not]
  simp

set_option maxRecDepth 20000 in
set_option maxHeartbeats 1000000 in
theorem ref3_good {w : World} {lv : Value} {ps : List (Int × Int)} (hl : HoldsL w lv ps) (hb : ps.length < 1099511627776) :
    Calls Try.prog 58 #[lv] w fun e w' => e = .returned (.bool (goodP ps)) ∧ w = w' := by
  have HG := Lib.hid (goodP_split ps)
  obtain ⟨ao, c, rfl, hlc, hcm, hcell⟩ := hl
  obtain ⟨n, hn⟩ : ∃ n, n = ps.length := ⟨_, rfl⟩
  rw [← hn] at hb hlc hcell HG ⊢
  have HN := Lib.hid hn
  have HC := Lib.hid hcell
  unfold maxLen at hcm
  clear hn hcell
  go_enter Try.func58, Try.ntmps58
  go_wp2
  go_loopg [3] n (fun gk i wr => ∃ (k : Nat), k + gk = n ∧ i = .int .i64 k ∧ Hid ((ps.any fun x => !placeB x.1) = ((ps.drop k).any fun x => !placeB x.1)) ∧ w = wr)
  case atStart => exact ⟨0, by omega, rfl, rfl, rfl⟩
  case round =>
    obtain ⟨k, hk, rfl, HE, rfl⟩ := hrel
    by_cases hlt : k < n
    · obtain ⟨g, o, rfl, e1, -⟩ := HC.out k hlt
      have hE := HE.out
      rw [drop_at (by rw [← HN.out]; exact hlt), List.any_cons] at hE
      generalize (ps.getD k (0, 0)) = x at e1 hE
      obtain ⟨at_, wd⟩ := x
      simp only at e1 hE
      have hpl : placeB at_ = decide (0 ≤ at_ ∧ at_ < 3128 ∧ (at_ < 8 ∨ 816 ≤ at_)) := rfl
      have bad : placeB at_ = false → goodP ps = false := by
        intro h
        rw [HG.out, hE, h]
        simp
      have ok : placeB at_ = true → Hid ((ps.any fun x => !placeB x.1) = ((ps.drop (k + 1)).any fun x => !placeB x.1)) := by
        intro h
        unfold Hid
        rw [hE, h]
        simp
      rcases (show at_ < 0 ∨ (0 ≤ at_ ∧ 3128 ≤ at_) ∨ (0 ≤ at_ ∧ at_ < 3128 ∧ at_ < 8) ∨ (0 ≤ at_ ∧ at_ < 3128 ∧ 8 ≤ at_ ∧ at_ < 816) ∨ (0 ≤ at_ ∧ at_ < 3128 ∧ 8 ≤ at_ ∧ 816 ≤ at_) by omega) with h0 | ⟨h0, h1⟩ | ⟨h0, h1, h2⟩ | ⟨h0, h1, h2, h3⟩ | ⟨h0, h1, h2, h3⟩
      · have hf := Lib.hid (bad (by rw [hpl]; simp; omega))
        clear hE hpl bad ok
        go_wp2
        go_ret
        rw [hf.out]
        exact ⟨rfl, rfl⟩
      · have hf := Lib.hid (bad (by rw [hpl]; simp; omega))
        clear hE hpl bad ok
        go_wp2
        go_ret
        rw [hf.out]
        exact ⟨rfl, rfl⟩
      · have hf := ok (by rw [hpl]; simp; omega)
        clear hE hpl bad ok
        go_wp2
        go_roundg (gk - 1)
        case measure => omega
        case rel => exact ⟨k + 1, by omega, by go_num, hf, rfl⟩
      · have hf := Lib.hid (bad (by rw [hpl]; simp; omega))
        clear hE hpl bad ok
        go_wp2
        go_ret
        rw [hf.out]
        exact ⟨rfl, rfl⟩
      · have hf := ok (by rw [hpl]; simp; omega)
        clear hE hpl bad ok
        go_wp2
        go_roundg (gk - 1)
        case measure => omega
        case rel => exact ⟨k + 1, by omega, by go_num, hf, rfl⟩
    · obtain rfl : k = n := by omega
      have hfin : goodP ps = decide (k ≤ 400) := by
        rw [HG.out, HE.out, List.drop_of_length_le (by have := HN.out; omega)]
        simp
      have HF := Lib.hid hfin
      clear hfin
      by_cases h4 : k ≤ 400
      · go_wp2
        go_ret
        rw [HF.out]
        exact ⟨by simp; omega, rfl⟩
      · have hd : decide (k ≤ 400) = false := by simpa using h4
        go_wp2
        go_ret
        rw [HF.out]
        exact ⟨by simp; omega, rfl⟩
end Go.Proofs.Ytfpnmphmngdkdaa
