/-
  The law PlogCommits: the walk. No condition.
-/
import Derived.Test.YtfpnmphmngdkdaaPlogLines
import Derived.Test.YtfpnmphmngdkdaaPm8
namespace Go.Proofs.Ytfpnmphmngdkdaa
open Go.ChangeShapes Go.WideShapes Go.ChangeAt Go.RowKit Go.Maps
set_option linter.unusedSimpArgs false
set_option linter.unusedVariables false

theorem HoldsL.lt {w : World} {v : Value} {ps : List (Int × Int)} (h : HoldsL w v ps) (hp : ps ≠ []) : ∀ g, v.ownBlock = some g → g < w.heap.size := by
  obtain ⟨ao, cap, rfl, h1, h2, h3⟩ := h
  obtain ⟨g, o, rfl, hc, -⟩ := h3 0 (List.length_pos_iff.2 hp)
  intro g' e
  cases e
  exact World.block_lt_of_cell? w _ hc

theorem HoldsL.mod2 {w w' : World} {v : Value} {ps : List (Int × Int)} (h : HoldsL w v ps) {D : Nat → Prop} (hm : Mod D w w') (hd : ps ≠ [] → ∀ g, v.ownBlock = some g → ¬ D g) : HoldsL w' v ps := by
  by_cases hp : ps = []
  · subst hp
    obtain ⟨ao, c, rfl, h1, h2, h3⟩ := h
    exact ⟨ao, c, rfl, h1, h2, fun j hj => by simp at hj⟩
  · exact h.mod hm (hd hp)

theorem placesL_word64 (a : List (Int × Int)) (h : Word64 a) : Word64 (placesL a) := by
  intro x hx
  obtain ⟨y, hy, rfl⟩ := List.mem_map.1 hx
  have h2 := h y hy
  refine ⟨?_, h2.2⟩
  simp only
  unfold placeOf
  split <;> omega

theorem own_lt2 {w : World} {base : Nat} {e : TypeId} {size : Nat} {v : Value} {n : Nat} {xs : List Value} (h : w.ownsRow base e size v n xs) : ∀ g, v.ownBlock = some g → g < w.heap.size := by
  intro k hk
  rcases h.2 with ⟨rfl, _⟩ | ⟨g, cap, cur, rfl, hb, hg, _⟩
  · cases hk
  · cases hk; exact lt_of_block hg

set_option maxRecDepth 20000 in
/-- No pairs committed, wherever their slice lies. -/
theorem plog_commit_nil {w : World} {p : Nat} {D : Nat → Prop} {S : Pm} (h : PmAt w p D S) {lv : Value} (hl : HoldsL w lv []) (hn : S.n = 3128) (hm : S.may 0 = 0) :
    Calls Try.prog 18 #[.pointer (some ⟨p, 0, none⟩), lv] w fun e w' => e = .returned (.int .i64 0) ∧ PmAt w' p D S ∧ Mod D w w' := by
  have hlen := pm_len h
  rw [hn] at hlen
  have HLEN := Lib.hid hlen
  have hg := plog_good hl (by show 0 < _; decide)
  rw [show goodP [] = true from rfl] at hg
  have HG := Lib.hid hg
  have HP := Lib.hid h
  have HM := Lib.hid hm
  obtain ⟨ao, c, rfl, -, -, -⟩ := hl
  rw [List.length_nil] at HG ⊢
  clear h hlen hg hn hm
  go_enter Try.func18, Try.ntmps18
  go_wp2_with fail
  refine HLEN.out.mono ?_
  rintro e w1 ⟨rfl, rfl⟩
  go_wp2_with fail
  refine HG.out.mono ?_
  rintro e w1 ⟨rfl, hb1⟩
  have H1 : Hid (PmAt w1 p D S) := HP.out.mod (mod_of_below hb1) (fun _ _ h => h)
  have M1 : Hid (Mod D w w1) := (mod_of_below hb1).mono (fun _ _ h => h.elim)
  have hld := pm_load H1.out 0
  rw [HM.out] at hld
  have HLD := Lib.hid hld
  clear hb1 hld
  go_wp2_with fail
  refine HLD.out.mono ?_
  rintro e w2 ⟨rfl, rfl⟩
  go_wp2
  go_ret
  exact ⟨rfl, H1.out, M1.out⟩

theorem plog_commit2 {w : World} {p : Nat} {D : Nat → Prop} {S : Pm} (h : PmAt w p D S) {lv : Value} {ps : List (Int × Int)} (hl : HoldsL w lv ps) (hd : ps ≠ [] → ∀ g, lv.ownBlock = some g → ¬ D g) (hw : Word64 ps) (hlen : ps.length < 1099511627776) (hb : S.deeds + 10000 < 1099511627776) (hn : S.n = 3128) (hm : S.may 0 = 0) :
    Calls Try.prog 18 #[.pointer (some ⟨p, 0, none⟩), lv] w fun e w' => e = .returned (.int .i64 (S.commit ps).2) ∧ PmAt w' p D (S.commit ps).1 ∧ Mod D w w' := by
  by_cases hp : ps = []
  · subst hp
    have e : S.commit [] = (S, 0) := by
      unfold Pm.commit
      rw [if_neg (by simp [hn, goodP]), if_pos (.inr rfl), hm]
    rw [e]
    exact plog_commit_nil h hl hn hm
  · exact plog_commit h hl (hd hp) hw hlen hb

/-- Behind a commit, and a crash that keeps nothing. -/
theorem commits_plain (l : List (Int × Int)) (hg : goodP l = true) (hw : Words2 l) :
    ∃ T, Z3128.commit l = (T, 0) ∧ T.n = 3128 ∧ T.deeds = commitDeeds l ∧ (T.crash []).n = 3128 ∧ (T.crash []).gone = false ∧ SameAs (T.crash []) (afterL (List.replicate 3128 0) l) := by
  obtain ⟨T, e1, a1, a2, a3, a4, a5, a6⟩ := commit_calm Z_ok (new_calm 3128) Z_n hg hw
  have h8 : T.now 8 = 0 := by
    rcases a5 with h | ⟨_, h⟩
    · exact h
    · rw [h]; exact new_zero 3128 8
  have hnow : ∀ i, (T.crash []).now i = T.now i := by
    intro i
    rw [Pm.crash_now a1, a2.2.1 i]
    simp
  refine ⟨T, e1, a3, ?_, a3, rfl, by rw [hnow]; exact h8, fun i hi hk => ?_⟩
  · rw [a6]
    show 0 + _ = _
    omega
  · rw [hnow, a4 i hk]
    refine afterL_getD l _ Z3128.now ?_ i (by rw [List.length_replicate]; exact hi)
    intro j hj
    rfl

/-- What the commit meets. -/
def CommitsMid (w : World) (v : Value) (wc : World) : Prop :=
  ∃ (ao : Option Addr) (n c : Nat) (l : List (Int × Int)), v = .slice ao n c ∧ Hid (n = l.length) ∧ n ≤ c ∧ c ≤ maxLen ∧ Hid (HoldsL wc (.slice ao n c) l) ∧ Hid (Word64 l) ∧ n ≤ 420 ∧ Hid (Below w.heap.size w wc)

set_option maxRecDepth 20000 in
set_option maxHeartbeats 2000000 in
theorem law_commits0 {w : World} {av : Value} {a : List (Int × Int)} (ha : HoldsL w av a) (hwa : Word64 a) (cut : Bool) :
    Calls Try.prog 12 #[av, .bool cut] w fun e w' => e = .returned (.bool true) ∧ Below w.heap.size w w' := by
  obtain ⟨i0, hi0, hz0, hz1, hz2⟩ := info_parts Try.infoU64
  have HA := Lib.hid ha
  have HWA := Lib.hid hwa
  obtain ⟨ao, c, rfl, hlc, hcm, -⟩ := ha
  obtain ⟨n, hn⟩ : ∃ n, n = a.length := ⟨_, rfl⟩
  rw [← hn] at HA hlc ⊢
  have HN := Lib.hid hn
  clear hwa hn
  by_cases h1 : n ≤ 420
  · have h1i : ¬ (420 : Int) < (n : Int) := by omega
    go_enter Try.func12, Try.ntmps12
    go_upto_if 16 with (go_at_call 15; refine (awake3 _).mono ?_; rintro e w1 ⟨rfl, hb1⟩; have HB1 := Lib.hid hb1; have HA1 := Lib.hid (HA.out.below hb1); clear hb1)
    go_cut [0] (fun v wc => CommitsMid w v wc)
    case first =>
      cases cut with
      | true =>
        go_wp2_with fail
        refine (law3_places HA1.out HWA.out (by rw [← HN.out]; omega)).mono ?_
        rintro e w2 ⟨v2, rfl, ho2, hb2⟩
        have HB2 : Hid (Below w.heap.size w w2) := HB1.out.trans (hb2.mono HB1.out.size)
        rw [← HN.out] at ho2
        have HO2 := Lib.hid (HoldsL.of_own (by rw [placesL_len]; exact HN.out) ho2)
        obtain ⟨ao2, cap2, rfl, k1, k2, -⟩ := own_shape ho2
        have hqa : Word64 (placesL a) := placesL_word64 a HWA.out
        clear ho2 hb2
        go_wp2_with fail
        go_meet
        case rel => exact ⟨_, _, _, placesL a, rfl, (by unfold Hid; rw [placesL_len]; exact HN.out), k1, k2, HO2.out, hqa, h1, HB2⟩
      | false =>
        go_wp2_with fail
        go_meet
        case rel => exact ⟨_, _, _, a, rfl, HN, hlc, hcm, HA1.out, HWA.out, h1, HB1⟩
    case rest =>
      clear HA HA1 HN HWA hlc hcm h1 h1i HB1
      obtain ⟨ao, n, c, l, rfl, HN, hlc, hcm, HL, HW, hn4, HBC⟩ := hcut
      go_wp2_with fail
      refine (pm_new 3128 _).mono ?_
      rintro e w4 ⟨p, rfl, h4, hb4⟩
      have H4 : Hid (PmAt w4 p (grow nob wc w4) Z3128) := h4
      have HB4 : Hid (Below w.heap.size w w4) := HBC.out.trans (hb4.mono HBC.out.size)
      have HL4 := Lib.hid (HL.out.below hb4)
      have HD : Hid (l ≠ [] → ∀ g, (Value.slice ao n c).ownBlock = some g → ¬ grow nob wc w4 g) := by
        intro hne g hg hd
        have := HL.out.lt hne g hg
        rcases hd with hd | hd
        · exact hd
        · omega
      have HDW : Hid (∀ g, grow nob wc w4 g → w.heap.size ≤ g) := by
        intro g hd
        have := HBC.out.size
        rcases hd with hd | hd
        · exact hd.elim
        · omega
      have hcm1 := plog_commit2 H4.out HL4.out HD.out HW.out (by rw [← HN.out]; omega) (by show 0 + 10000 < _; omega) Z_n (by unfold Pm.may; rw [Z_n]; rfl)
      have HC1 := Lib.hid hcm1
      clear h4 hb4 hcm1
      generalize grow nob wc w4 = DD at H4 HD HDW HC1
      cases hg : goodP l with
      | false =>
        have hcf : Z3128.commit l = (Z3128, 1) := by unfold Pm.commit; rw [if_pos (.inr hg)]
        rw [hcf] at HC1
        have HG := Lib.hid hg
        clear hg hcf
        go_wp2_with fail
        refine HC1.out.mono ?_
        rintro e w5 ⟨rfl, h5, m5⟩
        have HL5 := Lib.hid (HL4.out.mod2 m5 HD.out)
        have HB5 : Hid (Below w.heap.size w w5) := HB4.out.trans (m5.below HB4.out.size HDW.out)
        have hgd := ref3_good HL5.out (by rw [← HN.out]; omega)
        rw [HG.out] at hgd
        have HGD := Lib.hid hgd
        have hde := pm_deeds h5
        rw [show Z3128.deeds = 0 from rfl] at hde
        have HDE := Lib.hid hde
        clear h5 m5 hgd hde HC1
        go_wp2_with fail
        refine HGD.out.mono ?_
        rintro e w6 ⟨rfl, rfl⟩
        go_wp2_with fail
        refine HDE.out.mono ?_
        rintro e w6 ⟨rfl, rfl⟩
        go_wp2
        go_ret
        exact ⟨rfl, HB5.out⟩
      | true =>
        obtain ⟨T, e1, e2, e3, e4, e5, e6⟩ := commits_plain l hg (fun x hx => (HW.out x hx).2)
        rw [e1] at HC1
        have HG := Lib.hid hg
        have HGI := Lib.hid (good_in hg)
        have HT := Lib.hid (And.intro e4 (And.intro e5 e6))
        have HTD := Lib.hid e3
        clear hg e1 e2 e3 e4 e5 e6
        go_wp2_with fail
        refine HC1.out.mono ?_
        rintro e w5 ⟨rfl, h5, m5⟩
        have H5 : Hid (PmAt w5 p DD T) := h5
        have HL5 := Lib.hid (HL4.out.mod2 m5 HD.out)
        have HB5 : Hid (Below w.heap.size w w5) := HB4.out.trans (m5.below HB4.out.size HDW.out)
        have hgd := ref3_good HL5.out (by rw [← HN.out]; omega)
        rw [HG.out] at hgd
        have HGD := Lib.hid hgd
        have hde := pm_deeds h5
        rw [HTD.out] at hde
        have HDE := Lib.hid hde
        clear h5 m5 hgd hde HC1
        go_wp2_with fail
        refine HGD.out.mono ?_
        rintro e w6 ⟨rfl, rfl⟩
        go_wp2_with fail
        refine HDE.out.mono ?_
        rintro e w6 ⟨rfl, rfl⟩
        go_wp2_with fail
        refine (pm_crash H5.out (HoldsB.nil _) (fun h => absurd rfl h)).mono ?_
        rintro e w6 ⟨rfl, h6, m6⟩
        have H6 := Lib.hid h6
        have HL6 := Lib.hid (HL5.out.mod2 m6 HD.out)
        have HB6 : Hid (Below w.heap.size w w6) := HB5.out.trans (m6.below HB5.out.size HDW.out)
        have hrd := ref3_deeds HL6.out (fun x hx => by have := HGI.out.1 x hx; omega) HGI.out.2
        have HRD := Lib.hid hrd
        clear h6 m6 hrd
        generalize commitDeeds l = cd at *
        go_wp2_with fail
        refine HRD.out.mono ?_
        rintro e w7 ⟨rfl, hb7⟩
        have H7 := Lib.hid (H6.out.mod (mod_of_below hb7) (fun _ _ h => h))
        have HB7 : Hid (Below w.heap.size w w7) := HB6.out.trans (hb7.mono HB6.out.size)
        have HL7 := Lib.hid (HL6.out.below hb7)
        clear hb7
        go_wp2_with (at_make; refine wpList_unguard (by rfl) ?_; refine wpList_make_full _ rfl _ _ 53 rfl w7.heap.size 41 i0 (.int .u64 0) 1 Try.underlying53 hi0 hz0 hz1 .i64 .i64 3128 3128 3128 rfl rfl rfl rfl (by rw [hz2]; omega) (by unfold maxLen; omega) (Nat.le_refl _) ?_)
        intro w8 hown8 hgr8
        have hb8 : Below w7.heap.size w7 w8 := (Below.refl _ _).grown hgr8 (Nat.le_refl _) (by intro k hk; cases hk)
        have HZ8 := Lib.hid (made_holds hown8)
        have H8 := Lib.hid (H7.out.mod (mod_of_below hb8) (fun _ _ h => h))
        have HB8 : Hid (Below w.heap.size w w8) := HB7.out.trans (hb8.mono HB7.out.size)
        have HL8 := Lib.hid (HL7.out.below hb8)
        have HR8 : Hid ((List.replicate 3128 (0 : Int)).length = 3128) := List.length_replicate
        clear hown8 hgr8 hb8
        have haf := ref3_after HZ8.out HL8.out (by rw [HR8.out]; omega) (by intro x hx; rw [HR8.out]; have := HGI.out.1 x hx; omega) (by rw [← HN.out]; omega)
        rw [HR8.out] at haf
        have HAF := Lib.hid haf
        clear haf
        go_wp2_with fail
        refine HAF.out.mono ?_
        rintro e w9 ⟨v9, rfl, ho9, hb9⟩
        have HL9 : Hid ((afterL (List.replicate 3128 0) l).length = 3128) := by unfold Hid; rw [afterL_len]; exact HR8.out
        have HZ9 : Hid (HoldsU w9 v9 (afterL (List.replicate 3128 0) l)) := holdsU_of_own (by rw [HL9.out]; exact ho9)
        have H9 := Lib.hid (H8.out.mod (mod_of_below hb9) (fun _ _ h => h))
        have HB9 : Hid (Below w.heap.size w w9) := HB8.out.trans (hb9.mono HB8.out.size)
        have HSM := Lib.hid (law3_same H9.out HZ9.out HL9.out HT.out.1 HT.out.2.1 HT.out.2.2)
        obtain ⟨ao9, cap9, rfl, -, -, -⟩ := own_shape ho9
        clear ho9 hb9 HAF
        go_wp2_with fail
        refine HSM.out.mono ?_
        rintro e w10 ⟨rfl, rfl⟩
        go_wp2
        go_ret
        exact ⟨rfl, HB9.out⟩
  · have h1i : (420 : Int) < (n : Int) := by omega
    go_enter Try.func12, Try.ntmps12
    go_wp2_with fail
    refine (awake3 _).mono ?_
    rintro e w1 ⟨rfl, hb1⟩
    go_wp2_with fail
    refine (awake3 _).mono ?_
    rintro e w2 ⟨rfl, hb2⟩
    go_wp2
    go_ret
    exact ⟨rfl, hb1.trans (hb2.mono hb1.size)⟩
end Go.Proofs.Ytfpnmphmngdkdaa
