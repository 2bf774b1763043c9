/-
  A memory that may last: a line flushed: a contract. No condition but the bounds that are typed.
-/
import Derived.Test.YtfpnmphmngdkdaaPm3
import Derived.StillTailTactics
namespace Go.Proofs.Ytfpnmphmngdkdaa
open Go.ChangeShapes Go.WideShapes Go.ChangeAt Go.RowKit
set_option linter.unusedSimpArgs false
set_option linter.unusedVariables false

theorem flushTo_refl (S : Pm) (i : Nat) : S.flushTo i i = S := by
  unfold Pm.flushTo
  have : (fun j => if i ≤ j ∧ j < i ∧ (S.old j).isSome then some (S.now j) else S.fl j) = S.fl := by
    funext j
    rw [if_neg (by omega)]
  rw [this]

theorem flushTo_none (S : Pm) (i k : Nat) (h : S.old k = none) : S.flushTo i (k + 1) = S.flushTo i k := by
  unfold Pm.flushTo
  congr 1
  funext j
  by_cases e : j = k
  · subst e
    rw [if_neg (by simp [h]), if_neg (by omega)]
  · by_cases h2 : i ≤ j ∧ j < k ∧ (S.old j).isSome = true
    · rw [if_pos ⟨h2.1, by omega, h2.2.2⟩, if_pos h2]
    · rw [if_neg (fun h3 => h2 ⟨h3.1, by omega, h3.2.2⟩), if_neg h2]

theorem flushTo_some (S : Pm) (i k : Nat) (hi : i ≤ k) {z : Int} (h : S.old k = some z) : S.flushTo i (k + 1) = { S.flushTo i k with fl := updO (S.flushTo i k).fl k (some (S.now k)) } := by
  unfold Pm.flushTo
  congr 1
  funext j
  simp only [updO]
  by_cases e : j = k
  · subst e
    rw [if_pos rfl, if_pos ⟨hi, by omega, by simp [h]⟩]
  · rw [if_neg e]
    by_cases h2 : i ≤ j ∧ j < k ∧ (S.old j).isSome = true
    · rw [if_pos ⟨h2.1, by omega, h2.2.2⟩, if_pos h2]
    · rw [if_neg (fun h3 => h2 ⟨h3.1, by omega, h3.2.2⟩), if_neg h2]

theorem Pm.Ok.setFl {S : Pm} (h : S.Ok) (n : Nat) (hn : n < S.n) (x : Int) (h0 : 0 ≤ x) (h1 : x < 18446744073709551616) : ({ S with fl := updO S.fl n (some x) } : Pm).Ok := by
  refine ⟨h.n, h.now, h.old, fun k y hy => ?_, h.fuse⟩
  simp only [updO] at hy
  split at hy
  · rename_i e; subst e; cases hy; exact ⟨hn, h0, h1⟩
  · exact h.fl k y hy

set_option maxRecDepth 20000 in
set_option maxHeartbeats 1000000 in
theorem pm_flush {w : World} {p : Nat} {D : Nat → Prop} {S : Pm} (h : PmAt w p D S) (hd : S.deeds < 4611686018427387904) (i : Int) :
    Calls Try.prog 46 #[.pointer (some ⟨p, 0, none⟩), .int .i64 i] w fun e w' => e = .returned (.int .i64 (S.may i)) ∧ PmAt w' p D (S.flush i) ∧ Mod D w w' := by
  have HM := Lib.hid (pm_may h i)
  have HL := Lib.hid h
  have hl : S.flush i = if S.may i = 0 then (S.flushTo (i.toNat / 8 * 8) (min (i.toNat / 8 * 8 + 8) S.n)).deed else S := rfl
  by_cases hm : S.may i = 0
  · obtain ⟨h0, h1, -⟩ := Pm.may_ok hm
    obtain ⟨n, rfl⟩ := Int.eq_ofNat_of_zero_le h0
    have hn : n < S.n := by omega
    have hN := h.ok.n
    rw [if_pos hm] at hl
    rw [hm] at HM ⊢
    have HLL := Lib.hid hl
    obtain ⟨v, ob, fb, h⟩ := h
    obtain ⟨g, cap, rfl, -, -, hgs, -⟩ := h.now.pos (by omega)
    have HR := Lib.hid h
    obtain ⟨lo, hlo⟩ : ∃ lo, lo = n / 8 * 8 := ⟨_, rfl⟩
    have HLO : Hid ((n : Int) - (n : Int) % 8 = (lo : Int)) := by unfold Hid; omega
    have HLO2 := Lib.hid hlo
    have hlo1 : lo ≤ n := by omega
    have hlo2 : n < lo + 8 := by omega
    have HEND : Hid (∀ k, k ≤ lo + 8 → k ≤ S.n → ¬ (k < lo + 8 ∧ k < S.n) → S.flush (n : Int) = (S.flushTo lo k).deed) := by
      intro k h1 h2 h3
      rw [hl, show ((n : Int)).toNat = n from rfl, ← hlo, show min (lo + 8) S.n = k by omega]
    clear h hl hm hlo
    rcases (show S.n < lo + 8 ∨ lo + 8 ≤ S.n by omega) with hmin | hmin
    all_goals
      go_enter Try.func46, Try.ntmps46
      go_wp2_with (first | (go_at_call 106; refine HM.out.mono ?_; rintro e w' ⟨rfl, rfl⟩))
      rw [HLO.out]
      go_loopg [7] 8 (fun gk kv wr => ∃ k : Nat, k + gk = lo + 8 ∧ kv = .int .i64 k ∧ lo ≤ k ∧ k ≤ S.n ∧ Hid (PmR wr p D (S.flushTo lo k) (.slice (some ⟨g, 0, none⟩) S.n cap) ob fb) ∧ Hid (Mod D w wr))
      case atStart => exact ⟨lo, by omega, by first | rfl | (rw [HLO.out]), by omega, by omega, by rw [flushTo_refl]; exact HR.out, Mod.refl _ _⟩
      case round =>
        obtain ⟨k, hk, rfl, hk1, hk2, HRK, HMK⟩ := hrel
        obtain ⟨c0, c1, c2, -, -, -⟩ := HRK.out.cells
        by_cases hlt : k < lo + 8 ∧ k < S.n
        · obtain ⟨hlt1, hlt2⟩ := hlt
          have hc := HRK.out.now.pos (show 0 < (S.flushTo lo k).n from by show 0 < S.n; omega)
          obtain ⟨g', cap', e', -, -, -, hc⟩ := hc
          simp only [Value.slice.injEq, Option.some.injEq, Addr.mk.injEq, and_true, true_and] at e'
          obtain ⟨rfl, -, rfl⟩ := e'
          have d1 := (hc k hlt2).1
          have hwd := HRK.out.ok.now k
          have hnk : (S.flushTo lo k).now k = S.now k := rfl
          rw [hnk] at d1 hwd
          have hk0 : (0 : Int) ≤ (k : Int) := Int.natCast_nonneg _
          have hk9 : (k : Int) < (S.n : Int) := by omega
          clear hc hnk
          cases ho : S.old k with
          | none =>
            have HO := Lib.hid ho
            clear ho
            go_wp2_with (at_lookup; refine wp_lookR rfl _ _ rfl ob S.n S.old rfl HRK.out.old k hlt2 hN rfl ?_; rw [HO.out])
            go_roundg (gk - 1)
            case measure => omega
            case rel => exact ⟨k + 1, by omega, by go_num, by omega, by omega, by rw [flushTo_none S lo k HO.out]; exact HRK, HMK⟩
          | some z =>
            have HO := Lib.hid ho
            clear ho
            go_wp2_with (at_lookup; refine wp_lookR rfl _ _ rfl ob S.n S.old rfl HRK.out.old k hlt2 hN rfl ?_; rw [HO.out])
            go_still_tail 12, (by kernel_rfl)
            have HRK2 := Lib.hid (HRK.out.mod (D0 := nob) ((Mod.refl nob wr).drew) (fun _ _ h => h))
            refine wp_putR rfl _ _ _ rfl fb S.n _ rfl HRK2.out.fl k hlt2 hN rfl (S.now k) hwd.1 hwd.2 rfl ?_
            intro w1 hm1 hg1
            have HR1 := Lib.hid (HRK2.out.setFl hg1 hm1 (HRK2.out.ok.setFl k hlt2 _ hwd.1 hwd.2))
            have HM1 := Lib.hid (mod_of_grown hg1)
            clear hm1 hg1
            go_wp2
            go_roundg (gk - 1)
            case measure => omega
            case rel => exact ⟨k + 1, by omega, by go_num, by omega, by omega, by rw [flushTo_some S lo k hk1 HO.out]; exact HR1.out, (HMK.out.drew).step HM1.out (fun b hb => by cases hb; exact HRK.out.dfb)⟩
        · go_wp2_with (go_at_call 107; refine (pm_deed ⟨_, _, _, HRK.out⟩ hd).mono ?_; rintro e w5 ⟨rfl, h5, m5, -⟩)
          go_ret
          rw [HEND.out k (by omega) hk2 hlt]
          exact ⟨rfl, h5, HMK.out.step m5 (fun _ h => h)⟩
  · have hne : ((S.may i) != 0) = true := by simpa using hm
    rw [if_neg hm] at hl
    have HLL := Lib.hid hl
    generalize S.may i = m at HM hne ⊢
    clear h hl hm
    go_enter Try.func46, Try.ntmps46
    go_wp2_with (go_at_call 106; refine HM.out.mono ?_; rintro e w' ⟨rfl, rfl⟩)
    go_ret
    rw [HLL.out]
    exact ⟨rfl, HL.out, Mod.refl _ _⟩
end Go.Proofs.Ytfpnmphmngdkdaa
