/-
  A commit: a contract. No condition but the bounds that are typed.
-/
import Derived.Test.YtfpnmphmngdkdaaPlog4
namespace Go.Proofs.Ytfpnmphmngdkdaa
open Go.ChangeShapes Go.WideShapes Go.ChangeAt Go.RowKit Go.Maps
set_option linter.unusedSimpArgs false
set_option linter.unusedVariables false

def bindW (r : Pm × Int) (f : Pm → Pm × Int) : Pm × Int := if r.2 = 0 then f r.1 else r
noncomputable def Pm.commitGo (S : Pm) (l : List (Int × Int)) : Pm × Int :=
  bindW (S.write (asPairsL 9 (pairWords l))) fun T => bindW (T.mark (commitW l)) fun U => U.doneP l
noncomputable def Pm.commit (S : Pm) (l : List (Int × Int)) : Pm × Int :=
  if S.n ≠ 3128 ∨ goodP l = false then (S, 1) else if S.may 0 ≠ 0 ∨ l.length = 0 then (S, S.may 0) else S.commitGo l

theorem bindW_ok (T : Pm) (f : Pm → Pm × Int) : bindW (T, 0) f = f T := if_pos rfl
theorem bindW_no (T : Pm) (e : Int) (f : Pm → Pm × Int) (he : ¬ e = 0) : bindW (T, e) f = (T, e) := if_neg he

theorem commitW_range {l : List (Int × Int)} (h : l.length ≤ 1000) : 0 ≤ commitW l ∧ commitW l < 18446744073709551616 := by
  have := PackM.sum_lt ((pairWords l).map Int.toNat)
  unfold commitW sumI
  omega

theorem good_pos {l : List (Int × Int)} (h : goodP l = true) (hw : Word64 l) : Pos l ∧ l.length ≤ 400 := by
  unfold goodP at h
  simp only [Bool.and_eq_true, decide_eq_true_eq, List.all_eq_true] at h
  refine ⟨fun x hx => ?_, h.1⟩
  have h1 := h.2 x hx
  have h2 := hw x hx
  unfold placeB at h1
  simp only [decide_eq_true_eq] at h1
  omega

theorem pos_word64 {l : List (Int × Int)} (h : Pos l) : Word64 l := fun x hx => by have := h x hx; omega

theorem asPairsL_word64 (at_ : Int) (ha : 0 ≤ at_ ∧ at_ ≤ 10000) (xs : List Int) (h : ∀ z ∈ xs, 0 ≤ z ∧ z < 18446744073709551616) (hl : xs.length ≤ 1099511627776) : Word64 (asPairsL at_ xs) := by
  intro x hx
  unfold asPairsL at hx
  obtain ⟨i, hi, rfl⟩ := List.mem_map.1 hx
  have hi := List.mem_range.1 hi
  have : xs.getD i 0 ∈ xs := by
    rw [List.getD_eq_getElem?_getD, List.getElem?_eq_getElem hi]
    exact List.getElem_mem hi
  have := h _ this
  simp only
  omega

theorem not_in_of_ge {w w1 : World} {D : Nat → Prop} (hlt : ∀ b, D b → b < w.heap.size) (hs : w.heap.size ≤ w1.heap.size) {e : TypeId} {size : Nat} {v : Value} {n : Nat} {xs : List Value} {w2 : World} (h : w2.ownsRow w1.heap.size e size v n xs) : ∀ g, v.ownBlock = some g → ¬ D g := by
  intro g hg hd
  have := own_ge h g hg
  have := hlt g hd
  omega

set_option maxRecDepth 20000 in
set_option maxHeartbeats 1000000 in
theorem plog_commit {w : World} {p : Nat} {D : Nat → Prop} {S : Pm} (h : PmAt w p D S) {lv : Value} {ps : List (Int × Int)} (hl : HoldsL w lv ps) (hd : ∀ g, lv.ownBlock = some g → ¬ D g) (hw : Word64 ps) (hlen : ps.length < 1099511627776) (hb : S.deeds + 10000 < 1099511627776) :
    Calls Try.prog 18 #[.pointer (some ⟨p, 0, none⟩), lv] w fun e w' => e = .returned (.int .i64 (S.commit ps).2) ∧ PmAt w' p D (S.commit ps).1 ∧ Mod D w w' := by
  have HLEN := Lib.hid (pm_len h)
  have HG := Lib.hid (plog_good hl hlen)
  have hfin : S.commit ps = if S.n ≠ 3128 ∨ goodP ps = false then (S, 1) else if S.may 0 ≠ 0 ∨ ps.length = 0 then (S, S.may 0) else S.commitGo ps := rfl
  have HP := Lib.hid h
  have HL := Lib.hid hl
  have HD := Lib.hid hd
  have HW := Lib.hid hw
  have HLT := Lib.hid h.lt
  obtain ⟨ao, c, rfl, -, -, -⟩ := hl
  clear hd hw h
  by_cases hn : S.n = 3128
  · rw [hn] at HLEN
    cases hg : goodP ps with
    | false =>
      rw [if_pos (.inr hg)] at hfin
      have HF := Lib.hid hfin
      rw [hg] at HG
      clear hfin hg hn
      go_enter Try.func18, Try.ntmps18
      go_wp2_with fail
      refine HLEN.out.mono ?_
      rintro e w1 ⟨rfl, rfl⟩
      go_wp2_with fail
      refine HG.out.mono ?_
      rintro e w1 ⟨rfl, hb1⟩
      have H1 : Hid (PmAt w1 p D S) := HP.out.mod (mod_of_below hb1) (fun _ _ h => h)
      have M1 : Hid (Mod D w w1) := (mod_of_below hb1).mono (fun _ _ h => h.elim)
      clear hb1
      go_wp2
      go_ret
      rw [HF.out]
      exact ⟨rfl, H1.out, M1.out⟩
    | true =>
      rw [if_neg (by simp [hn, hg])] at hfin
      obtain ⟨hpos, hl4⟩ := good_pos hg HW.out
      have HPOS := Lib.hid hpos
      rw [hg] at HG
      clear hg hn hpos
      by_cases hm : S.may 0 = 0
      · by_cases h0 : ps.length = 0
        · rw [if_pos (.inr h0), hm] at hfin
          have HF := Lib.hid hfin
          have HM := Lib.hid hm
          rw [h0] at HG ⊢
          clear hfin hm h0
          go_enter Try.func18, Try.ntmps18
          go_wp2_with fail
          refine HLEN.out.mono ?_
          rintro e w1 ⟨rfl, rfl⟩
          go_wp2_with fail
          refine HG.out.mono ?_
          rintro e w1 ⟨rfl, hb1⟩
          have H1 : Hid (PmAt w1 p D S) := HP.out.mod (mod_of_below hb1) (fun _ _ h => h)
          have M1 : Hid (Mod D w w1) := (mod_of_below hb1).mono (fun _ _ h => h.elim)
          have hld := pm_load H1.out 0
          rw [HM.out] at hld
          have HLD := Lib.hid hld
          clear hb1 hld
          go_wp2_with fail
          refine HLD.out.mono ?_
          rintro e w2 ⟨rfl, rfl⟩
          go_wp2
          go_ret
          rw [HF.out]
          exact ⟨rfl, H1.out, M1.out⟩
        · rw [if_neg (by simp [hm, h0])] at hfin
          have HM := Lib.hid hm
          have hne : ((ps.length : Int) == 0) = false := by simpa using h0
          have HFIN := Lib.hid hfin
          clear hfin hm h0
          go_enter Try.func18, Try.ntmps18
          go_wp2_with fail
          refine HLEN.out.mono ?_
          rintro e w1 ⟨rfl, rfl⟩
          go_wp2_with fail
          refine HG.out.mono ?_
          rintro e w1 ⟨rfl, hb1⟩
          have H1 : Hid (PmAt w1 p D S) := HP.out.mod (mod_of_below hb1) (fun _ _ h => h)
          have M1 : Hid (Mod D w w1) := (mod_of_below hb1).mono (fun _ _ h => h.elim)
          have hld := pm_load H1.out 0
          rw [HM.out] at hld
          have HLD := Lib.hid hld
          have HL1 := Lib.hid (HL.out.below hb1)
          clear hb1 hld
          go_wp2_with fail
          refine HLD.out.mono ?_
          rintro e w2 ⟨rfl, rfl⟩
          go_wp2_with fail
          refine (plog_words HL1.out HPOS.out (by omega)).mono ?_
          rintro e w2 ⟨v2, rfl, ho2, hb2⟩
          have H2 : Hid (PmAt w2 p D S) := H1.out.mod (mod_of_below hb2) (fun _ _ h => h)
          have M2 : Hid (Mod D w w2) := M1.out.step (mod_of_below hb2) (fun _ h => h.elim)
          have HL2 := Lib.hid (HL1.out.below hb2)
          have HU2 : Hid (HoldsU w2 v2 (pairWords ps)) := holdsU_of_own (by rw [pairWords_len]; exact ho2)
          obtain ⟨ao2, cap2, rfl, -, -, -⟩ := own_shape ho2
          clear ho2 hb2
          go_wp2_with fail
          refine (plog_asPairs HU2.out (by rw [pairWords_len]; omega) 9 (by omega) (by omega)).mono ?_
          rintro e w3 ⟨v3, rfl, ho3, hb3⟩
          have H3 : Hid (PmAt w3 p D S) := H2.out.mod (mod_of_below hb3) (fun _ _ h => h)
          have M3 : Hid (Mod D w w3) := M2.out.step (mod_of_below hb3) (fun _ h => h.elim)
          have HL3 := Lib.hid (HL2.out.below hb3)
          have HA3 : Hid (HoldsL w3 v3 (asPairsL 9 (pairWords ps))) := HoldsL.of_own (asPairsL_len _ _).symm ho3
          have HD3 : Hid (∀ g, v3.ownBlock = some g → ¬ D g) := not_in_of_ge HLT.out (w := w) M2.out.size ho3
          obtain ⟨ao3, cap3, rfl, -, -, -⟩ := own_shape ho3
          have HLEN3 : Hid ((asPairsL 9 (pairWords ps)).length = 2 * ps.length) := by unfold Hid; rw [asPairsL_len, pairWords_len]
          have HWR := Lib.hid (plog_write H3.out HA3.out HD3.out (asPairsL_word64 9 (by omega) _ (pairWords_mem HPOS.out) (by rw [pairWords_len]; omega)) (by rw [HLEN3.out]; omega))
          have hdT := Pm.write_deeds S (asPairsL 9 (pairWords ps))
          rw [HLEN3.out] at hdT
          have HCR := Lib.hid (commitW_range (l := ps) (by omega))
          clear ho3 hb3
          have hgo : S.commitGo ps = bindW (S.write (asPairsL 9 (pairWords ps))) fun T => bindW (T.mark (commitW ps)) fun U => U.doneP ps := rfl
          have HGO := Lib.hid hgo
          generalize (S.write (asPairsL 9 (pairWords ps))) = T at HWR hdT HGO
          obtain ⟨T, e1⟩ := T
          simp only at HWR hdT
          clear hgo
          by_cases he : e1 = 0
          · subst he
            go_wp2_with fail
            refine HWR.out.mono ?_
            rintro e w4 ⟨rfl, h4, m4⟩
            have H4 := Lib.hid h4
            have M4 : Hid (Mod D w w4) := M3.out.step m4 (fun _ h => h)
            have HL4 : Hid (HoldsL w4 (.slice ao ps.length c) ps) := HL3.out.mod m4 HD.out
            clear h4 m4 HWR
            go_wp2_with fail
            refine (plog_commitWord HL4.out HPOS.out (by omega)).mono ?_
            rintro e w5 ⟨rfl, hb5⟩
            have H5 : Hid (PmAt w5 p D T) := H4.out.mod (mod_of_below hb5) (fun _ _ h => h)
            have M5 : Hid (Mod D w w5) := M4.out.step (mod_of_below hb5) (fun _ h => h.elim)
            have HL5 := Lib.hid (HL4.out.below hb5)
            have HMK := Lib.hid (plog_mark H5.out (commitW ps) HCR.out.1 HCR.out.2 (by omega))
            have hdU := Pm.write_deeds T [((8 : Int), commitW ps)]
            have hmk : T.mark (commitW ps) = T.write [((8 : Int), commitW ps)] := rfl
            rw [← hmk] at hdU
            clear hb5 hmk
            generalize hcw : commitW ps = cw at HMK
            have HCW := Lib.hid hcw
            rw [hcw] at hdU
            generalize hU : (T.mark cw) = U at HMK hdU
            have HU := Lib.hid hU
            obtain ⟨U, e2⟩ := U
            simp only [List.length_singleton] at HMK hdU
            clear hcw hU
            by_cases he2 : e2 = 0
            · subst he2
              go_wp2_with fail
              refine HMK.out.mono ?_
              rintro e w6 ⟨rfl, h6, m6⟩
              have H6 := Lib.hid h6
              have M6 : Hid (Mod D w w6) := M5.out.step m6 (fun _ h => h)
              have HL6 : Hid (HoldsL w6 (.slice ao ps.length c) ps) := HL5.out.mod m6 HD.out
              have HDN := Lib.hid (plog_done H6.out HL6.out HD.out HW.out (by omega))
              clear h6 m6 HMK
              go_wp2_with fail
              refine HDN.out.mono ?_
              rintro e w7 ⟨rfl, h7, m7⟩
              have H7 := Lib.hid h7
              have M7 : Hid (Mod D w w7) := M6.out.step m7 (fun _ h => h)
              have hfin2 : S.commit ps = U.doneP ps := by
                refine (HFIN.out.trans HGO.out).trans ((bindW_ok _ _).trans ?_)
                show bindW (T.mark (commitW ps)) _ = _
                rw [HCW.out, HU.out]
                exact bindW_ok _ _
              have HF2 := Lib.hid hfin2
              clear h7 m7 hfin2
              go_wp2
              go_ret
              rw [HF2.out]
              exact ⟨rfl, H7.out, M7.out⟩
            · have hne2 : (e2 != 0) = true := by simpa using he2
              have hfin2 : S.commit ps = (U, e2) := by
                refine (HFIN.out.trans HGO.out).trans ((bindW_ok _ _).trans ?_)
                show bindW (T.mark (commitW ps)) _ = _
                rw [HCW.out, HU.out]
                exact bindW_no _ _ _ he2
              have HF2 := Lib.hid hfin2
              clear he2 hfin2
              go_wp2_with fail
              refine HMK.out.mono ?_
              rintro e w6 ⟨rfl, h6, m6⟩
              have H6 := Lib.hid h6
              have M6 : Hid (Mod D w w6) := M5.out.step m6 (fun _ h => h)
              clear h6 m6 HMK
              go_wp2
              go_ret
              rw [HF2.out]
              exact ⟨rfl, H6.out, M6.out⟩
          · have hne2 : (e1 != 0) = true := by simpa using he
            have hfin2 : S.commit ps = (T, e1) := by
              rw [HFIN.out, HGO.out]
              unfold bindW
              rw [if_neg he]
            have HF2 := Lib.hid hfin2
            clear he hfin2
            go_wp2_with fail
            refine HWR.out.mono ?_
            rintro e w4 ⟨rfl, h4, m4⟩
            have H4 := Lib.hid h4
            have M4 : Hid (Mod D w w4) := M3.out.step m4 (fun _ h => h)
            clear h4 m4 HWR
            go_wp2
            go_ret
            rw [HF2.out]
            exact ⟨rfl, H4.out, M4.out⟩
      · rw [if_pos (.inl hm)] at hfin
        have HF := Lib.hid hfin
        have hne : (S.may 0 != 0) = true := by simpa using hm
        have HLD0 := fun (w1 : World) (h : PmAt w1 p D S) => Lib.hid (pm_load h 0)
        generalize S.may 0 = m at HF hne HLD0
        clear hfin hm
        go_enter Try.func18, Try.ntmps18
        go_wp2_with fail
        refine HLEN.out.mono ?_
        rintro e w1 ⟨rfl, rfl⟩
        go_wp2_with fail
        refine HG.out.mono ?_
        rintro e w1 ⟨rfl, hb1⟩
        have H1 : Hid (PmAt w1 p D S) := HP.out.mod (mod_of_below hb1) (fun _ _ h => h)
        have M1 : Hid (Mod D w w1) := (mod_of_below hb1).mono (fun _ _ h => h.elim)
        clear hb1
        go_wp2_with fail
        refine (HLD0 _ H1.out).out.mono ?_
        rintro e w2 ⟨rfl, rfl⟩
        go_wp2
        go_ret
        rw [HF.out]
        exact ⟨rfl, H1.out, M1.out⟩
  · rw [if_pos (.inl hn)] at hfin
    have HF := Lib.hid hfin
    have hne : ((S.n : Int) != 3128) = true := by simp; omega
    clear hfin hn
    go_enter Try.func18, Try.ntmps18
    go_wp2_with fail
    refine HLEN.out.mono ?_
    rintro e w1 ⟨rfl, rfl⟩
    go_wp2
    go_ret
    rw [HF.out]
    exact ⟨rfl, HP.out, Mod.refl _ _⟩
end Go.Proofs.Ytfpnmphmngdkdaa
