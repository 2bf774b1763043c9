/-
  A memory that may last: a fence: a contract. No condition but the bounds that are typed.
-/
import Derived.Test.YtfpnmphmngdkdaaPm4
namespace Go.Proofs.Ytfpnmphmngdkdaa
open Go.ChangeShapes Go.WideShapes Go.ChangeAt Go.RowKit
set_option linter.unusedSimpArgs false
set_option linter.unusedVariables false

/-- The one map, of those that are flushed without those that are still to come. -/
def fenceOld (S : Pm) (left : Lit → Bool) : Nat → Option Int := fun k => if (S.fl k).isSome && !left (.int .i64 (k : Int)) then none else S.old k

theorem Pm.Ok.fenceOld {S : Pm} (h : S.Ok) (left : Lit → Bool) : ({ S with old := fenceOld S left } : Pm).Ok := by
  refine ⟨h.n, h.now, fun k y hy => ?_, h.fl, h.fuse⟩
  simp only [Proofs.Ytfpnmphmngdkdaa.fenceOld] at hy
  split at hy
  · cases hy
  · exact h.old k y hy

theorem fenceOld_step (S : Pm) (left : Lit → Bool) (k : Nat) (hk : (S.fl k).isSome = true) : updO (fenceOld S left) k none = fenceOld S (fun z => left z && !z.sameKey (.int .i64 (k : Int))) := by
  funext j
  simp only [updO, fenceOld]
  by_cases e : j = k
  · subst e
    have h1 := WideAt.sameKey_self (show WideAt.IsKeyLit (.int .i64 (j : Int)) from trivial)
    simp [hk, h1]
  · have h1 := Maps.sameKey_ne (key_ne (show (j : Int) ≠ (k : Int) by omega))
    simp [e, h1]

theorem fenceOld_end (S : Pm) (left : Lit → Bool) (h : ∀ z, left z = false) : ({ { S with old := fenceOld S left } with fl := fun _ => none } : Pm) = S.settle := by
  unfold Pm.settle
  have : fenceOld S left = fun k => if (S.fl k).isSome then none else S.old k := by
    funext k
    simp [fenceOld, h]
  rw [this]

set_option maxRecDepth 20000 in
set_option maxHeartbeats 1000000 in
theorem pm_fence {w : World} {p : Nat} {D : Nat → Prop} {S : Pm} (h : PmAt w p D S) (hd : S.deeds < 4611686018427387904) :
    Calls Try.prog 47 #[.pointer (some ⟨p, 0, none⟩)] w fun e w' => e = .returned (.int .i64 S.fenceE) ∧ PmAt w' p D S.fence ∧ Mod D w w' := by
  have HL := Lib.hid h
  obtain ⟨v, ob, fb, h⟩ := h
  obtain ⟨-, -, c2, -, -, c5⟩ := h.cells
  have hfe : S.fenceE = if S.gone then 9 else 0 := rfl
  have hff : S.fence = if S.gone then S else S.settle.deed := rfl
  cases hg : S.gone with
  | true =>
    rw [hg] at c5 hfe hff
    have HFE := Lib.hid hfe
    have HFF := Lib.hid hff
    clear h hg hfe hff
    go_enter Try.func47, Try.ntmps47
    go_wp2
    go_ret
    rw [HFE.out, HFF.out]
    exact ⟨rfl, HL.out, Mod.refl _ _⟩
  | false =>
    rw [hg] at c5 hfe hff
    have HFE := Lib.hid hfe
    have HFF := Lib.hid hff
    have HR := Lib.hid h
    have hN := h.ok.n
    have hlt := h.lt
    have hob := h.dob
    have hfb := h.dfb
    have hof := h.of
    obtain ⟨Df, hown, hkk, hf, hv, hs, ho⟩ := h.fl
    have HKK := Lib.hid hkk
    have HF := Lib.hid hf
    have HO := Lib.hid ho
    have HLT := Lib.hid hlt
    have hstart : fenceOld S (Maps.has Df) = S.old := by
      funext k
      simp only [fenceOld]
      by_cases hk : k < S.n
      · have h1 := hf k hk
        rw [← h1]
        cases Maps.has Df (.int .i64 (k : Int)) <;> rfl
      · rw [ho k (by omega)]; simp
    have HST := Lib.hid hstart
    clear h hg hfe hff hkk hf hv hs ho hlt hstart
    go_enter Try.func47, Try.ntmps47
    go_wp2_with (at_range; refine wpList_range_own _ rfl _ 106 rfl 3 41 Try.lawInt Try.underlying106 _ fb S.n Df rfl hown ?_; intro w0 hrg0 hg0 hs0)
    go_frame
    have HR0 := Lib.hid (HR.out.mod (mod_of_grown hg0) (fun b _ hb => by cases hb))
    have HM0 : Hid (Mod D w w0) := (mod_of_grown hg0).mono (fun b _ hb => by cases hb)
    have HRG0 := Lib.hid hrg0
    clear hrg0 hg0 hs0 hown
    go_loopw [3] (fun _ wr => ∃ (left : Lit → Bool) (cn : Nat), wr.ranges Try.prog 3 (plainElem Try.prog 41) fb w.heap.size S.n Df left cn ∧ Hid (∀ z, left z = true → Maps.has Df z = true) ∧ Hid (PmR wr p D { S with old := fenceOld S left } v ob fb) ∧ Hid (Mod D w wr))
      (fun _ wr => wr.rangeLeft fb w.heap.size)
    case atStart => exact ⟨_, _, HRG0.out, fun _ h => h, by rw [HST.out]; exact HR0.out, HM0.out⟩
    case round =>
      obtain ⟨left, cn, hrg, HSUB, HRL, HML⟩ := hrel
      obtain ⟨-, e1, e2, -, -, -⟩ := HRL.out.cells
      go_wp2_with (at_next; refine wpList_next_ranges_ii _ rfl _ rfl 3 41 .i64 .u64 Try.lawInt Try.underlying3 Try.underlying41 fb w.heap.size S.n _ _ _ rfl hrg ?_ ?_)
      · intro _ hl0
        have HL0 := Lib.hid hl0
        clear hl0
        go_wp2_with (first
          | (refine wp_clearR rfl _ rfl fb S.n S.fl rfl HRL.out.fl ?_; intro w3 hm3 hg3; have HR3 := Lib.hid (HRL.out.setFl hg3 hm3 ⟨HRL.out.ok.n, HRL.out.ok.now, HRL.out.ok.old, (fun _ _ h => by cases h), HRL.out.ok.fuse⟩); have HM3 := Lib.hid (mod_of_grown hg3); clear hm3 hg3)
          | (go_at_call 107; refine (pm_deed ⟨_, _, _, HR3.out⟩ hd).mono ?_; rintro e w5 ⟨rfl, h5, m5, -⟩))
        go_ret
        have e := fenceOld_end S left HL0.out
        have hms := (HML.out.step HM3.out (fun b hb => by cases hb; exact hfb)).step m5 (fun _ h => h)
        rw [HFE.out, HFF.out]
        simp only [Bool.false_eq_true, if_false]
        rw [← e]
        exact ⟨rfl, h5, hms⟩
      · intro x c w1 cn1 hwx hwc hlx hat hrg1 hlt hg1 hs1 hen
        have hx := HKK.out x (HSUB.out _ hlx)
        obtain ⟨k, rfl⟩ := Int.eq_ofNat_of_zero_le hx.1
        have hk : k < S.n := by omega
        have hfk : (S.fl k).isSome = true := by rw [← HF.out k hk]; exact HSUB.out _ hlx
        have HR1 := Lib.hid (HRL.out.mod (mod_of_grown hg1) (fun b hb e => by cases e; have := HLT.out _ hb; omega))
        have HM1 : Hid (Mod D w w1) := HML.out.trans ((mod_of_grown hg1).mono (fun b hb e => by cases e; exact .inr ⟨Nat.le_refl _, hb⟩))
        obtain ⟨-, e1', e2', -, -, -⟩ := HR1.out.cells
        have hleft := hrg.left_eq
        have HLEFT := Lib.hid hleft
        have HLTC := Lib.hid hlt
        have HRG1 := Lib.hid hrg1
        have HFK := Lib.hid hfk
        clear hat hlx hg1 hrg1 hlt hleft hrg e1 e2 hfk hx
        go_wp2_with (at_delete; refine wp_delR rfl (.tmp 20) (.tmp 21) rfl ob S.n _ rfl HR1.out.old k hk hN rfl ?_; intro w2 hm2 hg2)
        have hne : w.heap.size ≠ ob := fun e => by have := HLT.out _ hob; omega
        have hrg2 := HRG1.out.kept hg2 (by simp; exact fun e => hof e.symm) (by simp; exact hne)
        have hR2 := HR1.out.setOld hg2 hm2 (HR1.out.ok.delOld k)
        have hM2 := HM1.out.step (mod_of_grown hg2) (fun b hb => by cases hb; exact hob)
        go_roundw
        case measure => rw [hrg2.left_eq, HLEFT.out]; exact HLTC.out
        case rel =>
          refine ⟨_, ⟨cn1, hrg2⟩, fun z hz => HSUB.out z (by simp only [Bool.and_eq_true] at hz; exact hz.1), ?_, hM2⟩
          rw [← fenceOld_step S left k HFK.out]
          exact hR2
end Go.Proofs.Ytfpnmphmngdkdaa
