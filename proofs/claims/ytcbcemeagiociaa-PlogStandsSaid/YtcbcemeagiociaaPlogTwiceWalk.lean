/-
  The law PlogTwice: the walk. No condition.
-/
import Derived.Test.YtcbcemeagiociaaPlogSame
namespace Go.Proofs.Ytcbcemeagiociaa
open Go.ChangeShapes Go.WideShapes Go.ChangeAt Go.RowKit Go.Maps
set_option linter.unusedSimpArgs false
set_option linter.unusedVariables false

theorem own_lt {w : World} {base : Nat} {e : TypeId} {size : Nat} {v : Value} {n : Nat} {xs : List Value} (h : w.ownsRow base e size v n xs) : ∀ g, v.ownBlock = some g → g < w.heap.size := by
  intro k hk
  rcases h.2 with ⟨rfl, _⟩ | ⟨g, cap, cur, rfl, hb, hg, _⟩
  · cases hk
  · cases hk; exact lt_of_block hg

/-- Behind two commits. -/
theorem twice_plain (a b : List (Int × Int)) (ha : a.length ≤ 60) (hb : b.length ≤ 60) (hwa : Words2 a) (hwb : Words2 b) :
    ∃ T1 T2, Z3128.commit (placesL a) = (T1, 0) ∧ T1.commit (placesL b) = (T2, 0) ∧ T2.standing = ([], false, 0) ∧ T2.dirty = 0 ∧ T2.n = 3128 ∧ T2.gone = false ∧ T1.deeds ≤ 100000 ∧ SameAs T2 (afterL (afterL (List.replicate 3128 0) (placesL a)) (placesL b)) := by
  obtain ⟨T1, e1, a1, a2, a3, a4, a5, a6⟩ := commit_calm Z_ok (new_calm 3128) Z_n (placesL_good a (by omega)) (placesL_words a hwa)
  obtain ⟨T2, e2, b1, b2, b3, b4, b5, b6⟩ := commit_calm a1 a2 a3 (placesL_good b (by omega)) (placesL_words b hwb)
  have h18 : T1.now 8 = 0 := by
    rcases a5 with h | ⟨_, h⟩
    · exact h
    · rw [h]; exact new_zero 3128 8
  have h28 : T2.now 8 = 0 := by
    rcases b5 with h | ⟨_, h⟩
    · exact h
    · rw [h]; exact h18
  refine ⟨T1, T2, e1, e2, standing_none b3 b2.1.1 h28, calm_dirty b2, b3, b2.1.1, ?_, h28, fun i hi hk => ?_⟩
  · have hd0 : Z3128.deeds = 0 := rfl
    have hfr : ∀ (l : List (Int × Int)) (f : Int → Nat), freshN f l ≤ l.length := by
      intro l
      induction l with
      | nil => intro f; exact Nat.le_refl _
      | cons x l ih => intro f; have := ih (inc f (x.1 / 8)); simp only [freshN, List.length_cons]; split <;> omega
    have h1 := hfr (placesL a) (fun _ => 0)
    have h2 := hfr (asPairsL 9 (pairWords (placesL a))) (fun _ => 0)
    rw [asPairsL_len, pairWords_len] at h2
    rw [placesL_len] at h1 h2
    rw [a6, hd0]
    unfold commitDeeds
    rw [placesL_len]
    split <;> omega
  · rw [b4 i hk]
    rw [afterL_getD (placesL b) _ (afterF Z3128.now (placesL a)) ?_ i (by rw [afterL_len, List.length_replicate]; exact hi)]
    · exact afterF_congr _ _ _ i (a4 i hk).symm
    · intro k hk2
      rw [afterL_len, List.length_replicate] at hk2
      refine afterL_getD (placesL a) _ Z3128.now ?_ k (by rw [List.length_replicate]; exact hk2)
      intro j hj
      rfl

set_option maxRecDepth 20000 in
set_option maxHeartbeats 2000000 in
theorem law_twice0 {w : World} {av bv : Value} {a b : List (Int × Int)} (ha : HoldsL w av a) (hb : HoldsL w bv b) (hwa : Word64 a) (hwb : Word64 b) :
    Calls Try.prog 13 #[av, bv] w fun e w' => e = .returned (.bool true) ∧ Below w.heap.size w w' := by
  obtain ⟨i0, hi0, hz0, hz1, hz2⟩ := info_parts Try.infoU64
  have HA := Lib.hid ha
  have HB := Lib.hid hb
  have HWA := Lib.hid hwa
  have HWB := Lib.hid hwb
  obtain ⟨ao, c, rfl, hlc, hcm, -⟩ := ha
  obtain ⟨bo, d, rfl, hld, hdm, -⟩ := hb
  obtain ⟨n, hn⟩ : ∃ n, n = a.length := ⟨_, rfl⟩
  obtain ⟨m, hm⟩ : ∃ m, m = b.length := ⟨_, rfl⟩
  rw [← hn] at HA hlc ⊢
  rw [← hm] at HB hld ⊢
  unfold maxLen at hcm hdm
  by_cases h1 : n ≤ 60 ∧ m ≤ 60
  · obtain ⟨h1, h2⟩ := h1
    obtain ⟨T1, T2, e1, e2, e3, e4, e5, e6, e7, e8⟩ := twice_plain a b (by omega) (by omega) (fun x hx => (hwa x hx).2) (fun x hx => (hwb x hx).2)
    have HP := Lib.hid (And.intro e1 (And.intro e2 (And.intro e3 (And.intro e4 (And.intro e5 (And.intro e6 e8))))))
    have HN := Lib.hid hn
    have HM := Lib.hid hm
    have hpa : goodP (placesL a) = true := placesL_good a (by omega)
    have hpb : goodP (placesL b) = true := placesL_good b (by omega)
    have HGA := Lib.hid (good_in hpa).1
    have HGB := Lib.hid (good_in hpb).1
    have hqa : Word64 (placesL a) := fun x hx => by have := (good_in hpa).1 x hx; have := placesL_words a (fun x hx => (hwa x hx).2) x hx; omega
    have hqb : Word64 (placesL b) := fun x hx => by have := (good_in hpb).1 x hx; have := placesL_words b (fun x hx => (hwb x hx).2) x hx; omega
    have HQA := Lib.hid hqa
    have HQB := Lib.hid hqb
    clear e1 e2 e3 e4 e5 e6 e8 hn hm hwa hwb hpa hpb hqa hqb
    go_enter Try.func13, Try.ntmps13
    go_wp2_with fail
    refine (awake3 _).mono ?_
    rintro e w1 ⟨rfl, hb1⟩
    have HB1 := Lib.hid hb1
    have HA1 := Lib.hid (HA.out.below hb1)
    have HBB1 := Lib.hid (HB.out.below hb1)
    clear hb1
    go_wp2_with fail
    refine (law3_places HA1.out HWA.out (by rw [← HN.out]; omega)).mono ?_
    rintro e w2 ⟨v2, rfl, ho2, hb2⟩
    have HB2 : Hid (Below w.heap.size w w2) := HB1.out.trans (hb2.mono HB1.out.size)
    have HO2 := Lib.hid (HoldsL.of_own (placesL_len a).symm ho2)
    have HLT2 := Lib.hid (own_lt ho2)
    have HBB2 := Lib.hid (HBB1.out.below hb2)
    obtain ⟨ao2, cap2, rfl, -, -, -⟩ := own_shape ho2
    clear ho2 hb2
    go_wp2_with fail
    refine (law3_places HBB2.out HWB.out (by rw [← HM.out]; omega)).mono ?_
    rintro e w3 ⟨v3, rfl, ho3, hb3⟩
    have HB3 : Hid (Below w.heap.size w w3) := HB2.out.trans (hb3.mono HB2.out.size)
    have HO3 := Lib.hid (HoldsL.of_own (placesL_len b).symm ho3)
    have HLT3 := Lib.hid (own_lt ho3)
    have HA3 := Lib.hid (HO2.out.below hb3)
    have HS23 := hb3.size
    obtain ⟨ao3, cap3, rfl, -, -, -⟩ := own_shape ho3
    clear ho3 hb3
    go_wp2_with fail
    refine (pm_new 3128 _).mono ?_
    rintro e w4 ⟨p, rfl, h4, hb4⟩
    have H4 : Hid (PmAt w4 p (grow nob w3 w4) Z3128) := h4
    have HB4 : Hid (Below w.heap.size w w4) := HB3.out.trans (hb4.mono HB3.out.size)
    have HA4 := Lib.hid (HA3.out.below hb4)
    have HBB4 := Lib.hid (HO3.out.below hb4)
    have HDA : Hid (∀ g, (Value.slice ao2 a.length cap2).ownBlock = some g → ¬ grow nob w3 w4 g) := by
      intro g hg hd
      have := HLT2.out g hg
      rcases hd with hd | hd
      · exact hd
      · omega
    have HDB : Hid (∀ g, (Value.slice ao3 b.length cap3).ownBlock = some g → ¬ grow nob w3 w4 g) := by
      intro g hg hd
      have := HLT3.out g hg
      rcases hd with hd | hd
      · exact hd
      · omega
    have HDW : Hid (∀ g, grow nob w3 w4 g → w.heap.size ≤ g) := by
      intro g hd
      have := HB3.out.size
      rcases hd with hd | hd
      · exact hd.elim
      · omega
    have hcm1 := plog_commit H4.out HA4.out HDA.out HQA.out (by rw [placesL_len, ← HN.out]; omega) (by show 0 + 10000 < _; omega)
    rw [HP.out.1] at hcm1
    have HC1 := Lib.hid hcm1
    clear h4 hb4 hcm1
    generalize grow nob w3 w4 = DD at H4 HDA HDB HDW HC1
    go_wp2_with fail
    refine HC1.out.mono ?_
    rintro e w5 ⟨rfl, h5, m5⟩
    have H5 := Lib.hid h5
    have HB5 : Hid (Below w.heap.size w w5) := HB4.out.trans (m5.below HB4.out.size HDW.out)
    have HA5 := Lib.hid (HA4.out.mod m5 HDA.out)
    have HBB5 := Lib.hid (HBB4.out.mod m5 HDB.out)
    have hcm2 := plog_commit H5.out HBB5.out HDB.out HQB.out (by rw [placesL_len, ← HM.out]; omega) (by omega)
    rw [HP.out.2.1] at hcm2
    have HC2 := Lib.hid hcm2
    clear h5 m5 hcm2 HC1
    go_wp2_with fail
    refine HC2.out.mono ?_
    rintro e w6 ⟨rfl, h6, m6⟩
    have H6 := Lib.hid h6
    have HB6 : Hid (Below w.heap.size w w6) := HB5.out.trans (m6.below HB5.out.size HDW.out)
    have HA6 := Lib.hid (HA5.out.mod m6 HDA.out)
    have HBB6 := Lib.hid (HBB5.out.mod m6 HDB.out)
    have hst := plog_standing H6.out
    rw [HP.out.2.2.1] at hst
    have HST := Lib.hid hst
    clear h6 m6 hst HC2
    go_wp2_with fail
    refine HST.out.mono ?_
    rintro e w7 ⟨v7, rfl, ho7, hb7⟩
    have H7 : Hid (PmAt w7 p DD T2) := H6.out.mod (mod_of_below hb7) (fun _ _ h => h)
    have HB7 : Hid (Below w.heap.size w w7) := HB6.out.trans (hb7.mono HB6.out.size)
    have HA7 := Lib.hid (HA6.out.below hb7)
    have HBB7 := Lib.hid (HBB6.out.below hb7)
    obtain ⟨ao7, cap7, rfl, -, -, -⟩ := own_shape ho7
    clear ho7 hb7 HST
    go_wp2_with (at_make; refine wpList_unguard (by rfl) ?_; refine wpList_make_full _ rfl _ _ 24 rfl w7.heap.size 26 i0 (.int .u64 0) 1 Try.underlying24 hi0 hz0 hz1 .i64 .i64 3128 3128 3128 rfl rfl rfl rfl (by rw [hz2]; omega) (by unfold maxLen; omega) (Nat.le_refl _) ?_)
    intro w8 hown8 hgr8
    have hb8 : Below w7.heap.size w7 w8 := (Below.refl _ _).grown hgr8 (Nat.le_refl _) (by intro k hk; cases hk)
    have HZ8 := Lib.hid (made_holds hown8)
    have H8 : Hid (PmAt w8 p DD T2) := H7.out.mod (mod_of_below hb8) (fun _ _ h => h)
    have HB8 : Hid (Below w.heap.size w w8) := HB7.out.trans (hb8.mono HB7.out.size)
    have HA8 := Lib.hid (HA7.out.below hb8)
    have HBB8 := Lib.hid (HBB7.out.below hb8)
    have HR8 : Hid ((List.replicate 3128 (0 : Int)).length = 3128) := List.length_replicate
    clear hown8 hgr8 hb8
    have haf1 := ref3_after HZ8.out HA8.out (by rw [HR8.out]; omega) (by intro x hx; rw [HR8.out]; have := HGA.out x hx; omega) (by rw [placesL_len, ← HN.out]; omega)
    rw [HR8.out] at haf1
    have HAF1 := Lib.hid haf1
    clear haf1
    go_wp2_with fail
    refine HAF1.out.mono ?_
    rintro e w9 ⟨v9, rfl, ho9, hb9⟩
    have HL9 : Hid ((afterL (List.replicate 3128 0) (placesL a)).length = 3128) := by unfold Hid; rw [afterL_len]; exact HR8.out
    have HZ9 : Hid (HoldsU w9 v9 (afterL (List.replicate 3128 0) (placesL a))) := holdsU_of_own (by rw [HL9.out]; exact ho9)
    have H9 : Hid (PmAt w9 p DD T2) := H8.out.mod (mod_of_below hb9) (fun _ _ h => h)
    have HB9 : Hid (Below w.heap.size w w9) := HB8.out.trans (hb9.mono HB8.out.size)
    have HBB9 := Lib.hid (HBB8.out.below hb9)
    have haf2 := ref3_after HZ9.out HBB9.out (by rw [HL9.out]; omega) (by intro x hx; rw [HL9.out]; have := HGB.out x hx; omega) (by rw [placesL_len, ← HM.out]; omega)
    rw [HL9.out] at haf2
    have HAF2 := Lib.hid haf2
    obtain ⟨ao9, cap9, rfl, -, -, -⟩ := own_shape ho9
    clear ho9 hb9 haf2 HAF1
    go_wp2_with fail
    refine HAF2.out.mono ?_
    rintro e w10 ⟨v10, rfl, ho10, hb10⟩
    have HL10 : Hid ((afterL (afterL (List.replicate 3128 0) (placesL a)) (placesL b)).length = 3128) := by unfold Hid; rw [afterL_len]; exact HL9.out
    have HZ10 : Hid (HoldsU w10 v10 (afterL (afterL (List.replicate 3128 0) (placesL a)) (placesL b))) := holdsU_of_own (by rw [HL10.out]; exact ho10)
    have H10 : Hid (PmAt w10 p DD T2) := H9.out.mod (mod_of_below hb10) (fun _ _ h => h)
    have HB10 : Hid (Below w.heap.size w w10) := HB9.out.trans (hb10.mono HB9.out.size)
    have HSM := Lib.hid (law3_same H10.out HZ10.out HL10.out HP.out.2.2.2.2.1 HP.out.2.2.2.2.2.1 HP.out.2.2.2.2.2.2)
    have hdt := pm_dirty H10.out
    rw [HP.out.2.2.2.1] at hdt
    have HDT := Lib.hid hdt
    obtain ⟨ao10, cap10, rfl, -, -, -⟩ := own_shape ho10
    clear ho10 hb10 hdt HAF2
    go_wp2_with fail
    refine HSM.out.mono ?_
    rintro e w11 ⟨rfl, rfl⟩
    go_wp2_with fail
    refine HDT.out.mono ?_
    rintro e w11 ⟨rfl, rfl⟩
    go_wp2
    go_ret
    exact ⟨rfl, HB10.out⟩
  · rcases (show 60 < n ∨ (n ≤ 60 ∧ 60 < m) by omega) with h2 | ⟨h2, h3⟩
    all_goals
      clear h1 hn hm
      go_enter Try.func13, Try.ntmps13
      go_wp2_with fail
      refine (awake3 _).mono ?_
      rintro e w1 ⟨rfl, hb1⟩
      go_wp2_with fail
      refine (awake3 _).mono ?_
      rintro e w2 ⟨rfl, hb2⟩
      go_wp2
      go_ret
      exact ⟨rfl, hb1.trans (hb2.mono hb1.size)⟩
end Go.Proofs.Ytcbcemeagiociaa
