/-
  The law PmemSizes: the walk. No condition.
-/
import Derived.Test.YtcbcemeagiociaaPm6
namespace Go.Proofs.Ytcbcemeagiociaa
open Go.ChangeShapes Go.WideShapes Go.ChangeAt Go.RowKit
set_option linter.unusedSimpArgs false
set_option linter.unusedVariables false

theorem new_n (k : Nat) (h : k ≤ 10000) : (Pm.new (List.replicate k 0)).n = k := by
  show min (List.replicate k (0 : Int)).length 10000 = k
  rw [List.length_replicate]; omega

theorem new_may (k : Nat) (h : k ≤ 10000) (i : Int) : (Pm.new (List.replicate k 0)).may i = if i < 0 ∨ (k : Int) ≤ i then 1 else 0 := by
  unfold Pm.may
  rw [new_n k h]
  rfl

theorem new_load (k : Nat) (i : Int) : (Pm.new (List.replicate k 0)).load i = 0 := by
  unfold Pm.load
  split
  · show (List.replicate k (0 : Int)).getD i.toNat 0 = 0
    rw [List.getD_eq_getElem?_getD, List.getElem?_replicate]
    split <;> rfl
  · rfl

def S9 : Pm := Pm.new (List.replicate 9 0)

set_option maxRecDepth 20000 in
theorem awake1 (w : World) : Calls Try.prog 41 #[] w fun e w' => e = .returned (.bool true) ∧ Below w.heap.size w w' := by
  go_enter Try.func41, Try.ntmps41
  go_wp2_with fail
  refine (pm_new 9 w).mono ?_
  rintro e w1 ⟨p, rfl, h1, hb1⟩
  have h1 : PmAt w1 p (grow nob w w1) S9 := h1
  have HLEN := pm_len h1
  rw [show S9.n = 9 from rfl] at HLEN
  have hst := pm_store h1 (by show 0 < _; decide) 1 5 (by omega) (by omega)
  rw [show S9.may 1 = 0 from rfl] at hst
  have HL := Lib.hid HLEN
  have HS := Lib.hid hst
  have HB := Lib.hid hb1
  clear h1 HLEN hst hb1
  go_wp2_with fail
  refine HL.out.mono ?_
  rintro e w2 ⟨rfl, rfl⟩
  go_wp2_with fail
  refine HS.out.mono ?_
  rintro e w2 ⟨rfl, h2, hm2⟩
  have hdt := pm_dirty h2
  rw [show (S9.store 1 5).dirty = 1 from rfl] at hdt
  have HDT := Lib.hid hdt
  have HM := Lib.hid hm2
  clear hdt h2 hm2
  go_wp2_with fail
  refine HDT.out.mono ?_
  rintro e w3 ⟨rfl, rfl⟩
  go_wp2
  go_ret
  exact ⟨rfl, HB.out.trans (HM.out.below HB.out.size (fun b hb => by rcases hb with hb | hb; exact hb.elim; exact hb.1))⟩

set_option maxRecDepth 20000 in
set_option maxHeartbeats 1000000 in
theorem law_sizes1 (n : Int) (w : World) : Calls Try.prog 9 #[.int .i64 n] w fun e w' => e = .returned (.bool true) ∧ Below w.heap.size w w' := by
  have hnew := pm_new n w
  have HAW := fun w => Lib.hid (awake1 w)
  obtain ⟨k, hk⟩ : ∃ k, k = min n.toNat 10000 := ⟨_, rfl⟩
  rw [← hk] at hnew
  have hk1 : k ≤ 10000 := by omega
  have HNEW := Lib.hid hnew
  have HN := Lib.hid (new_n k hk1)
  have HMAY := Lib.hid (new_may k hk1)
  have HLOAD := Lib.hid (new_load k)
  have hok : (Pm.new (List.replicate k 0)).deeds = 0 ∧ (Pm.new (List.replicate k 0)).fenceE = 0 ∧ (Pm.new (List.replicate k 0)).fence.deeds = 1 := ⟨rfl, rfl, rfl⟩
  have HOK := Lib.hid hok
  clear hok hnew
  generalize Pm.new (List.replicate k 0) = S at HNEW HN HMAY HLOAD HOK
  rcases (show (n < 0 ∧ k = 0) ∨ (n = 0 ∧ k = 0) ∨ (0 < n ∧ n ≤ 10000 ∧ (k : Int) = n) ∨ (10000 < n ∧ k = 10000) by omega) with ⟨h0, rfl⟩ | ⟨rfl, rfl⟩ | ⟨h0, h1, rfl⟩ | ⟨h0, rfl⟩
  all_goals clear hk
  · have hl1 : S.may (-1) = 1 := by rw [HMAY.out]; rw [if_pos (.inl (by omega))]
    have hl2 : S.may (0) = 1 := by rw [HMAY.out, if_pos (.inr (by omega))]
    have HL1 := Lib.hid hl1
    have HL2 := Lib.hid hl2
    clear hl1 hl2
    go_enter Try.func9, Try.ntmps9
    go_wp2_with fail
    refine HNEW.out.mono ?_
    rintro e w1 ⟨p, rfl, h1, hb1⟩
    have HS := Lib.hid h1
    have HB := Lib.hid hb1
    clear h1 hb1
    go_wp2_with fail
    refine (HAW _).out.mono ?_
    rintro e w2 ⟨rfl, hb2⟩
    have hs2 := HS.out.mod (mod_of_below hb2) (fun _ _ h => h)
    have HB2 := Lib.hid (HB.out.trans (hb2.mono HB.out.size))
    have hlen := pm_len hs2
    rw [HN.out] at hlen
    have hld1 := pm_load hs2 (-1)
    rw [HL1.out, HLOAD.out] at hld1
    have hld2 := pm_load hs2 (0)
    rw [HL2.out, HLOAD.out] at hld2
    have hfe := pm_fence hs2 (by rw [HOK.out.1]; decide)
    rw [HOK.out.2.1] at hfe
    go_wp2_with fail
    refine hlen.mono ?_
    rintro e w3 ⟨rfl, rfl⟩
    go_wp2_with fail
    refine hld1.mono ?_
    rintro e w3 ⟨rfl, rfl⟩
    go_wp2_with fail
    refine hld2.mono ?_
    rintro e w3 ⟨rfl, rfl⟩
    go_wp2_with fail
    refine hfe.mono ?_
    rintro e w3 ⟨rfl, h3, hm3⟩
    have hde := pm_deeds h3
    rw [HOK.out.2.2] at hde
    have HM3 := Lib.hid hm3
    clear hlen hld1 hld2 hfe h3 hm3
    go_wp2_with fail
    refine hde.mono ?_
    rintro e w4 ⟨rfl, rfl⟩
    go_wp2
    go_ret
    exact ⟨rfl, HB2.out.trans (HM3.out.below HB2.out.size (fun b hb => by rcases hb with hb | hb; exact hb.elim; exact hb.1))⟩
  · have hl1 : S.may (-1) = 1 := by rw [HMAY.out]; rw [if_pos (.inl (by omega))]
    have hl2 : S.may (0) = 1 := by rw [HMAY.out, if_pos (.inr (by omega))]
    have HL1 := Lib.hid hl1
    have HL2 := Lib.hid hl2
    clear hl1 hl2
    go_enter Try.func9, Try.ntmps9
    go_wp2_with fail
    refine HNEW.out.mono ?_
    rintro e w1 ⟨p, rfl, h1, hb1⟩
    have HS := Lib.hid h1
    have HB := Lib.hid hb1
    clear h1 hb1
    go_wp2_with fail
    refine (HAW _).out.mono ?_
    rintro e w2 ⟨rfl, hb2⟩
    have hs2 := HS.out.mod (mod_of_below hb2) (fun _ _ h => h)
    have HB2 := Lib.hid (HB.out.trans (hb2.mono HB.out.size))
    have hlen := pm_len hs2
    rw [HN.out] at hlen
    have hld1 := pm_load hs2 (-1)
    rw [HL1.out, HLOAD.out] at hld1
    have hld2 := pm_load hs2 (0)
    rw [HL2.out, HLOAD.out] at hld2
    have hfe := pm_fence hs2 (by rw [HOK.out.1]; decide)
    rw [HOK.out.2.1] at hfe
    go_wp2_with fail
    refine hlen.mono ?_
    rintro e w3 ⟨rfl, rfl⟩
    go_wp2_with fail
    refine hld1.mono ?_
    rintro e w3 ⟨rfl, rfl⟩
    go_wp2_with fail
    refine hld2.mono ?_
    rintro e w3 ⟨rfl, rfl⟩
    go_wp2_with fail
    refine hfe.mono ?_
    rintro e w3 ⟨rfl, h3, hm3⟩
    have hde := pm_deeds h3
    rw [HOK.out.2.2] at hde
    have HM3 := Lib.hid hm3
    clear hlen hld1 hld2 hfe h3 hm3
    go_wp2_with fail
    refine hde.mono ?_
    rintro e w4 ⟨rfl, rfl⟩
    go_wp2
    go_ret
    exact ⟨rfl, HB2.out.trans (HM3.out.below HB2.out.size (fun b hb => by rcases hb with hb | hb; exact hb.elim; exact hb.1))⟩
  · have hl1 : S.may ((k : Int) - 1) = 0 := by rw [HMAY.out]; rw [if_neg (by omega)]
    have hl2 : S.may ((k : Int)) = 1 := by rw [HMAY.out, if_pos (.inr (by omega))]
    have HL1 := Lib.hid hl1
    have HL2 := Lib.hid hl2
    clear hl1 hl2
    go_enter Try.func9, Try.ntmps9
    go_wp2_with fail
    refine HNEW.out.mono ?_
    rintro e w1 ⟨p, rfl, h1, hb1⟩
    have HS := Lib.hid h1
    have HB := Lib.hid hb1
    clear h1 hb1
    go_wp2_with fail
    refine (HAW _).out.mono ?_
    rintro e w2 ⟨rfl, hb2⟩
    have hs2 := HS.out.mod (mod_of_below hb2) (fun _ _ h => h)
    have HB2 := Lib.hid (HB.out.trans (hb2.mono HB.out.size))
    have hlen := pm_len hs2
    rw [HN.out] at hlen
    have hld1 := pm_load hs2 ((k : Int) - 1)
    rw [HL1.out, HLOAD.out] at hld1
    have hld2 := pm_load hs2 ((k : Int))
    rw [HL2.out, HLOAD.out] at hld2
    have hfe := pm_fence hs2 (by rw [HOK.out.1]; decide)
    rw [HOK.out.2.1] at hfe
    go_wp2_with fail
    refine hlen.mono ?_
    rintro e w3 ⟨rfl, rfl⟩
    go_wp2_with fail
    refine hld1.mono ?_
    rintro e w3 ⟨rfl, rfl⟩
    go_wp2_with fail
    refine hld2.mono ?_
    rintro e w3 ⟨rfl, rfl⟩
    go_wp2_with fail
    refine hfe.mono ?_
    rintro e w3 ⟨rfl, h3, hm3⟩
    have hde := pm_deeds h3
    rw [HOK.out.2.2] at hde
    have HM3 := Lib.hid hm3
    clear hlen hld1 hld2 hfe h3 hm3
    go_wp2_with fail
    refine hde.mono ?_
    rintro e w4 ⟨rfl, rfl⟩
    go_wp2
    go_ret
    exact ⟨rfl, HB2.out.trans (HM3.out.below HB2.out.size (fun b hb => by rcases hb with hb | hb; exact hb.elim; exact hb.1))⟩
  · have hl1 : S.may (9999) = 0 := by rw [HMAY.out]; rw [if_neg (by omega)]
    have hl2 : S.may (10000) = 1 := by rw [HMAY.out, if_pos (.inr (by omega))]
    have HL1 := Lib.hid hl1
    have HL2 := Lib.hid hl2
    clear hl1 hl2
    go_enter Try.func9, Try.ntmps9
    go_wp2_with fail
    refine HNEW.out.mono ?_
    rintro e w1 ⟨p, rfl, h1, hb1⟩
    have HS := Lib.hid h1
    have HB := Lib.hid hb1
    clear h1 hb1
    go_wp2_with fail
    refine (HAW _).out.mono ?_
    rintro e w2 ⟨rfl, hb2⟩
    have hs2 := HS.out.mod (mod_of_below hb2) (fun _ _ h => h)
    have HB2 := Lib.hid (HB.out.trans (hb2.mono HB.out.size))
    have hlen := pm_len hs2
    rw [HN.out] at hlen
    have hld1 := pm_load hs2 (9999)
    rw [HL1.out, HLOAD.out] at hld1
    have hld2 := pm_load hs2 (10000)
    rw [HL2.out, HLOAD.out] at hld2
    have hfe := pm_fence hs2 (by rw [HOK.out.1]; decide)
    rw [HOK.out.2.1] at hfe
    go_wp2_with fail
    refine hlen.mono ?_
    rintro e w3 ⟨rfl, rfl⟩
    go_wp2_with fail
    refine hld1.mono ?_
    rintro e w3 ⟨rfl, rfl⟩
    go_wp2_with fail
    refine hld2.mono ?_
    rintro e w3 ⟨rfl, rfl⟩
    go_wp2_with fail
    refine hfe.mono ?_
    rintro e w3 ⟨rfl, h3, hm3⟩
    have hde := pm_deeds h3
    rw [HOK.out.2.2] at hde
    have HM3 := Lib.hid hm3
    clear hlen hld1 hld2 hfe h3 hm3
    go_wp2_with fail
    refine hde.mono ?_
    rintro e w4 ⟨rfl, rfl⟩
    go_wp2
    go_ret
    exact ⟨rfl, HB2.out.trans (HM3.out.below HB2.out.size (fun b hb => by rcases hb with hb | hb; exact hb.elim; exact hb.1))⟩
end Go.Proofs.Ytcbcemeagiociaa
