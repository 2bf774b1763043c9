/-
  The law Fmt2Reads: the walk. No condition.
-/
import Derived.Test.YtfpnmphmngdkdaaQRd2
import Derived.Test.YtfpnmphmngdkdaaQAwake7
import Derived.Test.YtfpnmphmngdkdaaQPutGet2
import Derived.Test.YtfpnmphmngdkdaaQLayGet
import Derived.Test.YtfpnmphmngdkdaaQFew6
import Derived.Test.YtfpnmphmngdkdaaQRefRight
import Derived.Test.YtfpnmphmngdkdaaQOpenIno
import Derived.StillTailTactics
import Derived.Deep.RegionHeld3

namespace Go.Proofs.Ytfpnmphmngdkdaa
open Go.ChangeShapes Go.WideShapes Go.ChangeAt Go.RowKit
set_option linter.unusedSimpArgs false
set_option linter.unusedVariables false

theorem tmod_facts2 (x : Int) : ∃ m1 : Int, Int.tmod x 300 = m1 ∧ -300 < m1 ∧ m1 < 300 ∧ 0 ≤ (m1 + 300) % 300 ∧ (m1 + 300) % 300 < 300 := by
  have h1 : -300 < Int.tmod x 300 := Int.lt_tmod_of_pos x (by omega)
  have h2 : Int.tmod x 300 < 300 := Int.tmod_lt_of_pos x (by omega)
  exact ⟨_, rfl, h1, h2, by omega, by omega⟩

set_option maxRecDepth 20000 in
set_option maxHeartbeats 8000000 in
theorem law_reads2 {w : World} {n : Ino} {ev bv : Value} {ps : List (Int × Int)} (hn : n.Ok) (he : HoldsE w ev n.ents) (hp : HoldsPr w bv ps) (hpo : PrOk ps) :
    Calls Try.prog 7 #[.agg (inoA n ev), bv] w fun e w' => e = .returned (.bool true) ∧ Below w.heap.size w w' := by
  have HNO := Lib.hid hn
  have HPO := Lib.hid hpo
  have HBEL : Hid (Below w.heap.size w (w.alloc (.cells (inoA n ev) 37))) := (Below.refl _ _).alloc (Nat.le_refl _) _
  have HA0 : Hid (InoB (w.alloc (.cells (inoA n ev) 37)) w.heap.size n ev) := InoB.new w hn.len ev
  have HE := Lib.hid (he.below HBEL.out)
  have HP := Lib.hid (hp.mod (mod_of_below HBEL.out) (fun _ _ _ h => h))
  have HLE : Hid (n.ents ≠ [] → ∀ g, ev.ownBlock = some g → g < w.heap.size) := he.lt
  have HLP : Hid (ps ≠ [] → ∀ g, bv.ownBlock = some g → g < w.heap.size) := hp.lt
  obtain ⟨ea, ec, rfl, -, -, -, -⟩ := he
  obtain ⟨ba, bc, rfl, q1, q2, -⟩ := hp
  obtain ⟨m0, hm0⟩ : ∃ m0, m0 = ps.length := ⟨_, rfl⟩
  rw [← hm0] at HP HLP q1 ⊢
  have HM0 := Lib.hid hm0
  unfold maxLen at q2
  obtain ⟨b1, hb1⟩ : ∃ x, x = fewB n := ⟨_, rfl⟩
  have HFA : Hid (∀ wx, Mod nob (w.alloc (.cells (inoA n (.slice ea n.ents.length ec)) 37)) wx → Calls Try.prog 22 #[.agg (inoL n (.slice ea n.ents.length ec)).toArray] wx fun e w' => e = .returned (.bool b1) ∧ Below wx.heap.size wx w') := fun wx hm => by
    rw [hb1]
    exact few6 HNO.out (HE.out.mod hm (fun _ _ _ h => h))
  have HSA : Hid ((Try.prog.info? 37).map (·.size) = some (inoL n (.slice ea n.ents.length ec)).length) := by
    unfold Hid; rw [inoL_len hn.len]; exact Try.info18
  have HAW : Hid (∀ wx, Calls Try.prog 37 #[] wx fun e w' => e = .returned (.bool true) ∧ Below wx.heap.size wx w') := fun wx => awake7 wx
  have HSH : Hid (∀ wx, Calls Try.prog 23 #[.agg #[.int .u64 0, .int .u64 0, .int .u64 0, .int .u64 0]] wx fun e w' => ∃ p, e = .returned (.pointer (some ⟨p, 0, none⟩)) ∧ SheetAt w' p (grow nob wx w') (S6 fun _ => 0) ∧ Below wx.heap.size wx w') := fun wx => sheet6_any (fun _ => 0) (fun _ => by omega)
  have hsz0 : (w.alloc (.cells (inoA n (.slice ea n.ents.length ec)) 37)).heap.size = w.heap.size + 1 := by simp
  have HZ := Lib.hid hsz0
  clear hn hpo hb1 hsz0 hm0
  go_enter Try.func7, Try.ntmps7
  go_wp2_with fail
  generalize w.alloc (.cells (inoA n (.slice ea n.ents.length ec)) 37) = w0 at *
  obtain ⟨n0, hn0⟩ : ∃ n0, n0 = w.heap.size := ⟨_, rfl⟩
  have HN0 := Lib.hid hn0
  rw [← hn0] at HA0 HZ HLE HLP ⊢
  clear hn0
  have HX : Hid (Mod nob w0 w0) := Mod.refl nob w0
  refine (HAW.out _).mono ?_
  rintro e wz ⟨rfl, hbz⟩
  have HX := Lib.hid (HX.out.step (mod_of_below hbz) (fun _ h => h))
  clear hbz
  have HRA := Lib.hid ((HA0.out.mod HX.out (fun h => h)).at.range HNO.out.len)
  by_cases hgo : b1 = true ∧ m0 ≤ 6
  · obtain ⟨rfl, hm6⟩ := hgo
    have hm6i : ¬ (6 : Int) < (m0 : Int) := by omega
    go_upto_region 4 with (first
        | ((refine wpList_unguard (o := ⟨some 23, _, _, _, _, _⟩) (by rfl) ?_; with_reducible refine wpList_load_mid (op := ⟨some 23, _, _, _, _, _⟩) rfl 37 _ rfl (n0) 0 rfl (inoL n (.slice ea n.ents.length ec)) _ HRA.out Try.underlying37 rfl HSA.out ?_))
        | (go_at_call 22; with_reducible refine (HFA.out _ HX.out).mono ?_; rintro e wz ⟨rfl, hbz⟩; have HX := Lib.hid (HX.out.step (mod_of_below hbz) (fun _ h => h)); clear hbz; have HRA := Lib.hid ((HA0.out.mod HX.out (fun h => h)).at.range HNO.out.len))
        | (go_at_call 23; refine (HSH.out _).mono ?_; rintro e ws ⟨p, rfl, hs, hbz⟩))
    have HXS : Hid (Mod nob w0 ws) := HX.out.step (mod_of_below hbz) (fun _ h => h)
    have hz1 := HX.out.size
    obtain ⟨D, hD⟩ : ∃ D, D = grow nob wz ws := ⟨_, rfl⟩
    rw [← hD] at hs
    have HD : Hid (∀ b, D b → n0 + 1 ≤ b) := fun b hb => by
      rw [hD] at hb
      have := HZ.out
      rcases hb with hb | hb
      · exact hb.elim
      · omega
    obtain ⟨S, hS⟩ : ∃ S, S = S6 fun _ => 0 := ⟨_, rfl⟩
    rw [← hS] at hs
    have hwas : S.was.length = 0 := by rw [hS]; rfl
    obtain ⟨e1, he1⟩ : ∃ x, x = lay2E S 3 n := ⟨_, rfl⟩
    obtain ⟨S1, hS1⟩ : ∃ x, x = lay2T S 3 n := ⟨_, rfl⟩
    have hwas1 : S1.was.length ≤ 3000 := by have := lay2T_was S 3 n; rw [← hS1] at this; omega
    have HWAS1 := Lib.hid hwas1
    have HLA : Hid (Calls Try.prog 38 #[.pointer (some ⟨p, 0, none⟩), .int .i64 3, .agg (inoL n (.slice ea n.ents.length ec)).toArray] ws fun e w' => e = .returned (.int .i64 e1) ∧ ShStep ws p D w' S1) := by
      rw [he1, hS1]
      exact lay2_any hs (by omega) 3 HNO.out (HE.out.mod HXS.out (fun _ _ _ h => h)) (fun h0 g hg hdg => by have h1 := HLE.out h0 g hg; have h2 := HD.out g hdg; omega)
    have HRA := Lib.hid ((HA0.out.mod HXS.out (fun h => h)).at.range HNO.out.len)
    clear hs hbz hz1 hD hS hwas he1 hS1 hwas1 HAW HSH HFA HX
    go_upto_region 5 with (first
      | (with_reducible refine wpList_load_mid (op := ⟨some 36, _, _, _, _, _⟩) rfl 37 _ rfl (n0) 0 rfl (inoL n (.slice ea n.ents.length ec)) _ HRA.out Try.underlying37 rfl HSA.out ?_)
      | (go_at_call 38; with_reducible refine HLA.out.mono ?_; rintro e w5 ⟨rfl, hk5⟩))
    have HK5 := Lib.hid hk5
    have HBS : Hid (Below w.heap.size w ws) := by
      have h1 := HN0.out
      have h2 := HZ.out
      exact HBEL.out.trans (HXS.out.below (by omega) (fun b h => h.elim))
    have HPS : Hid (HoldsPr ws (.slice ba m0 bc) ps) := HP.out.mod HXS.out (fun _ _ _ h => h)
    have HZS : Hid (n0 + 1 ≤ ws.heap.size) := by have h1 := HXS.out.size; have h2 := HZ.out; unfold Hid; omega
    clear hk5 HLA HRA HA0 HE HXS HP HBEL HZ HLE
    go_wp2_with fail
    go_loopg [6] m0 (fun gk iv wr => ∃ k : Nat, k + gk = m0 ∧ iv = .int .i64 k ∧ Hid (∃ Sk, ShStep ws p D wr Sk ∧ Sk.was.length ≤ 3000 + k))
    case atStart => exact ⟨0, by omega, rfl, S1, HK5.out, HWAS1.out⟩
    case round =>
      obtain ⟨k, hk, rfl, HKS⟩ := hrel
      by_cases hlt : k < m0
      · have hki : (k : Int) < (m0 : Int) := by omega
        obtain ⟨Sk, hkS, hkW⟩ := HKS.out
        obtain ⟨ao', c', e, -, -, hcx⟩ := HPS.out.mod hkS.2 (fun h0 g hg hdg => by have h1 := HLP.out h0 g hg; have h2 := HD.out g hdg; omega)
        simp only [Value.slice.injEq] at e
        obtain ⟨rfl, -, rfl⟩ := e
        have hkl : k < ps.length := by have := HM0.out; omega
        obtain ⟨g, o, rfl, d1, d2⟩ := hcx k hkl
        have hpk := HPO.out k hkl
        obtain ⟨x, hxx⟩ : ∃ x, x = (ps.getD k (0, 0)).1 := ⟨_, rfl⟩
        obtain ⟨y, hyy⟩ : ∃ y, y = (ps.getD k (0, 0)).2 := ⟨_, rfl⟩
        rw [← hxx, ← hyy] at hpk
        rw [← hxx] at d1
        rw [← hyy] at d2
        obtain ⟨⟨x0, x1⟩, y0, y1⟩ := hpk
        obtain ⟨m1, t1, t3, t4, t5, t6⟩ := tmod_facts2 x
        have hwl : Sk.was.length < 1099511627776 := by omega
        have HPUT := Lib.hid (sheet_put (hkS.1.mod (D0 := nob) ((Mod.refl nob wr).drew) (fun _ _ h => h)) hwl (848 + (m1 + 300) % 300) y y0 y1)
        have HKK := Lib.hid hkS
        have HKW := Lib.hid hkW
        clear hcx hxx hyy hkS hkW hwl hkl
        go_wp2_with fail
        go_still_tail 15, (by kernel_rfl)
        go_wp2_with (go_at_call 27; with_reducible refine HPUT.out.mono ?_; rintro e w6 ⟨rfl, h6, m6⟩)
        have HN6 : Hid (∃ Sn, ShStep ws p D w6 Sn ∧ Sn.was.length ≤ 3000 + (k + 1)) := ⟨_, HKK.out.over ((Mod.refl nob wr).drew) ⟨h6, m6⟩, by have h1 := Sh.put_was_le Sk (848 + (m1 + 300) % 300) y; have h2 := HKW.out; omega⟩
        clear h6 m6
        go_wp2_with fail
        go_roundg (gk - 1)
        case measure => omega
        case rel => exact ⟨k + 1, by omega, by go_num, HN6⟩
      · have hge : ¬ (k : Int) < (m0 : Int) := by omega
        obtain rfl : k = m0 := by omega
        obtain ⟨T, hkT, -⟩ := HKS.out
        have HKT := Lib.hid hkT
        clear hkT HKS
        have HBK : Hid (Below w.heap.size w wr) := HBS.out.trans (HKT.out.2.below HBS.out.size (fun b h => by have := HD.out b h; have := HN0.out; omega))
        have HRD := Lib.hid (rd2_any HKT.out.1 3)
        obtain ⟨r, hr⟩ : ∃ r, r = rd2 T 3 := ⟨_, rfl⟩
        rw [← hr] at HRD
        have HRR := Lib.hid hr
        clear hr
        go_wp2_with fail
        refine HRD.out.mono ?_
        cases r with
        | none =>
          rintro e w7 ⟨hb7, rfl⟩
          have HB7 := Lib.hid hb7
          clear hb7 HRD HRR
          have hszA : (inoL ino0 (.slice none 0 0)).toArray.size = 18 := by simp [inoL_len (show ino0.bl.length = 13 from rfl)]
          have HTH : Hid ((w7.alloc (.cells z18 37)).there w7.heap.size 0 (inoL ino0 (.slice none 0 0)).toArray.size) := by
            unfold Hid; rw [hszA]; exact ino_there w7 _
          have HISZ : Hid ((Try.prog.info? 37).map (·.size) = some (inoL ino0 (.slice none 0 0)).toArray.size) := by
            unfold Hid; rw [hszA]; exact Try.info18
          have HONE : Hid ((inoL ino0 (.slice none 0 0)).toArray.all (·.oneCell') = true) := all_oneCell_toArray (inoL_one rfl)
          have HROW := Lib.hid (ino_row w7 37 (inoL ino0 (.slice none 0 0)) (inoL_len (show ino0.bl.length = 13 from rfl) _))
          clear hszA
          go_upto_region 10 with (with_reducible refine wpList_store_mid (op := ⟨none, _, _, _, _, _⟩) rfl 37 _ _ rfl w7.heap.size 0 (inoL ino0 (.slice none 0 0)).toArray rfl rfl HTH.out HISZ.out HONE.out ?_)
          have HIX : Hid (InoB ((w7.alloc (.cells z18 37)).setCells w7.heap.size 0 (inoL ino0 (.slice none 0 0))) w7.heap.size ino0 (.slice none 0 0)) := ⟨HROW.out.1, (show ino0.bl.length = 13 from rfl)⟩
          have HMX : Hid (Mod nob w7 ((w7.alloc (.cells z18 37)).setCells w7.heap.size 0 (inoL ino0 (.slice none 0 0)))) := mod_of_below HROW.out.2
          clear HROW HTH HISZ HONE
          generalize (w7.alloc (.cells z18 37)).setCells w7.heap.size 0 (inoL ino0 (.slice none 0 0)) = w8 at *
          obtain ⟨X, hX⟩ : ∃ X, X = w7.heap.size := ⟨_, rfl⟩
          rw [← hX] at HIX ⊢
          clear hX
          have c0 : w8.cell? ⟨X, 0, none⟩ = some (.int .i64 0) := HIX.out.at.c0
          go_wp2_with fail
          go_ret
          exact ⟨rfl, HBK.out.trans ((HB7.out.mono HBK.out.size).trans (HMX.out.below (by have := HB7.out.size; have := HBK.out.size; omega) (fun b h => h.elim)))⟩
        | some rr =>
          obtain ⟨m, xs⟩ := rr
          rintro e w7 ⟨hb7, mv, xv, rfl, hmv, hxv, -, -⟩
          have HB7 := Lib.hid hb7
          obtain ⟨-, hmo, hrm, hfm, hLI⟩ := rd2_some HKT.out.1.ok HRR.out.symm
          have HMO := Lib.hid hmo
          have HRMM := Lib.hid hrm
          have HM1 := Lib.hid hfm
          have HLI := Lib.hid hLI
          have HMV := Lib.hid hmv
          have HXV := Lib.hid hxv
          obtain ⟨ma, mc, rfl, -, -, -, -⟩ := hmv
          obtain ⟨xa, xc, rfl, x1, x2, -, -⟩ := hxv
          unfold maxLen at x2
          clear hb7 HRD hmo hrm hfm hLI HRR
          have hszA : (inoL m (.slice ma m.ents.length mc)).toArray.size = 18 := by simp [inoL_len HMO.out.len]
          have HTH : Hid ((w7.alloc (.cells z18 37)).there w7.heap.size 0 (inoL m (.slice ma m.ents.length mc)).toArray.size) := by
            unfold Hid; rw [hszA]; exact ino_there w7 _
          have HISZ : Hid ((Try.prog.info? 37).map (·.size) = some (inoL m (.slice ma m.ents.length mc)).toArray.size) := by
            unfold Hid; rw [hszA]; exact Try.info18
          have HONE : Hid ((inoL m (.slice ma m.ents.length mc)).toArray.all (·.oneCell') = true) := all_oneCell_toArray (inoL_one rfl)
          have HROW := Lib.hid (ino_row w7 37 (inoL m (.slice ma m.ents.length mc)) (inoL_len HMO.out.len _))
          clear hszA
          go_upto_region 10 with (with_reducible refine wpList_store_mid (op := ⟨none, _, _, _, _, _⟩) rfl 37 _ _ rfl w7.heap.size 0 (inoL m (.slice ma m.ents.length mc)).toArray rfl rfl HTH.out HISZ.out HONE.out ?_)
          have HIX : Hid (InoB ((w7.alloc (.cells z18 37)).setCells w7.heap.size 0 (inoL m (.slice ma m.ents.length mc))) w7.heap.size m (.slice ma m.ents.length mc)) := ⟨HROW.out.1, HMO.out.len⟩
          have HMX : Hid (Mod nob w7 ((w7.alloc (.cells z18 37)).setCells w7.heap.size 0 (inoL m (.slice ma m.ents.length mc)))) := mod_of_below HROW.out.2
          clear HROW HTH HISZ HONE
          generalize (w7.alloc (.cells z18 37)).setCells w7.heap.size 0 (inoL m (.slice ma m.ents.length mc)) = wB at *
          obtain ⟨X, hX⟩ : ∃ X, X = w7.heap.size := ⟨_, rfl⟩
          rw [← hX] at HIX ⊢
          clear hX
          have HM7 : Hid (Mod nob wr wB) := (mod_of_below HB7.out).step HMX.out (fun _ h => h)
          have HEB : Hid (HoldsE wB (.slice ma m.ents.length mc) m.ents) := HMV.out.mod HMX.out (fun _ _ _ h => h)
          have HNB : Hid (HoldsN wB (.slice xa xs.length xc) xs) := HXV.out.mod HMX.out (fun _ _ _ h => h)
          have HBB : Hid (Below w.heap.size w wB) := HBK.out.trans (HM7.out.below HBK.out.size (fun b h => h.elim))
          have HST : Hid (SheetAt wB p (grow D ws wr) T) := HKT.out.1.mod HM7.out (fun _ _ h => h)
          obtain ⟨M, hM⟩ : ∃ M, M = xs.length := ⟨_, rfl⟩
          have HWD : Hid (∀ wx (j : Int), Mod nob wB wx → 0 ≤ j → j < 4000 → Calls Try.prog 41 #[.agg (inoL m (.slice ma m.ents.length mc)).toArray, .int .i64 848, .slice xa xs.length xc, .int .i64 j] wx fun e w' => e = .returned (.tuple #[.int .u64 (word2At m 848 xs j).1, .bool (word2At m 848 xs j).2]) ∧ Below wx.heap.size wx w') := fun wx j hm h0 h1 => ref_word2 HMO.out (HEB.out.mod hm (fun _ _ _ h => h)) (HNB.out.mod hm (fun _ _ _ h => h)) HRMM.out HLI.out.len (fun b hb => (HLI.out.mem b hb).2) 848 (by omega) j ⟨h0, h1⟩
          have hM40 : M ≤ 40 := by rw [hM, HLI.out.len]; exact need2_le HRMM.out
          rw [← hM] at HNB HWD x1 ⊢
          have HND : Hid (∀ wx, Mod nob wB wx → Calls Try.prog 40 #[.agg (inoL m (.slice ma m.ents.length mc)).toArray] wx fun e w' => e = .returned (.int .i64 (M : Nat)) ∧ Below wx.heap.size wx w') := fun wx hm => by
            rw [hM, HLI.out.len]
            exact ref_need2 HMO.out (HEB.out.mod hm (fun _ _ _ h => h)) HRMM.out
          have HRI : Hid (∀ wx, Mod nob wB wx → Calls Try.prog 29 #[.agg (inoL m (.slice ma m.ents.length mc)).toArray] wx fun e w' => e = .returned (.bool true) ∧ Below wx.heap.size wx w') := fun wx hm => by
            have := ref_right HMO.out (HEB.out.mod hm (fun _ _ _ h => h))
            rw [rightB_true HRMM.out] at this
            exact this
          have HSM : Hid ((Try.prog.info? 37).map (·.size) = some (inoL m (.slice ma m.ents.length mc)).length) := by
            unfold Hid; rw [inoL_len HMO.out.len]; exact Try.info18
          have HRM := Lib.hid (HIX.out.at.range HMO.out.len)
          have HX : Hid (Mod nob wB wB) := Mod.refl nob wB
          have HMM := Lib.hid hM
          clear hM HKT HXV HMV HMX HM7 HBK HBS HPS HLP HZS HK5 HD
          go_upto_region 14 with (first
            | (with_reducible refine wpList_load_mid (op := ⟨some 76, _, _, _, _, _⟩) rfl 37 _ rfl (X) 0 rfl (inoL m (.slice ma m.ents.length mc)) _ HRM.out Try.underlying37 rfl HSM.out ?_)
            | ((refine wpList_unguard (o := ⟨some 87, _, _, _, _, _⟩) (by rfl) ?_; with_reducible refine wpList_load_mid (op := ⟨some 87, _, _, _, _, _⟩) rfl 37 _ rfl (X) 0 rfl (inoL m (.slice ma m.ents.length mc)) _ HRM.out Try.underlying37 rfl HSM.out ?_))
            | (go_at_call 40; with_reducible refine (HND.out _ HX.out).mono ?_; rintro e wz ⟨rfl, hbz⟩; have HX := Lib.hid (HX.out.step (mod_of_below hbz) (fun _ h => h)); clear hbz; have HRM := Lib.hid ((HIX.out.mod HX.out (fun h => h)).at.range HMO.out.len))
            | (go_at_call 29; with_reducible refine (HRI.out _ HX.out).mono ?_; rintro e wz ⟨rfl, hbz⟩; have HX := Lib.hid (HX.out.step (mod_of_below hbz) (fun _ h => h)); clear hbz; have HRM := Lib.hid ((HIX.out.mod HX.out (fun h => h)).at.range HMO.out.len); have c0 := (HIX.out.mod HX.out (fun h => h)).at.c0; rw [HM1.out] at c0))
          clear c0
          go_wp2_with fail
          go_loopg [10] M (fun gk iv wr => ∃ k : Nat, k + gk = M ∧ iv = .int .i64 k ∧ Hid (Mod nob wB wr))
          case atStart => exact ⟨0, by omega, rfl, HX⟩
          case round =>
            obtain ⟨k, hk, rfl, HW⟩ := hrel
            by_cases hlt : k < M
            · have hki : (k : Int) < (M : Int) := by omega
              have HKL := Lib.hid hlt
              have hxr := HLI.out.mem _ (getD_in (l := xs) (a := k) (by have := HMM.out; omega))
              obtain ⟨ao', c', e, -, -, -, hcx⟩ := HNB.out.mod HW.out (fun _ _ _ h => h)
              have hlen := HMM.out
              rw [← hlen] at e
              simp only [Value.slice.injEq] at e
              obtain ⟨rfl, -, rfl⟩ := e
              obtain ⟨g, o, rfl, d1⟩ := hcx k (by omega)
              obtain ⟨x, hxx⟩ : ∃ x, x = xs.getD k 0 := ⟨_, rfl⟩
              rw [← hxx] at d1 hxr
              have HXX := Lib.hid hxx
              have hx1 : ¬ (x : Int) < 1 := by omega
              have hx2 : ¬ (255 : Int) < (x : Int) := by omega
              have hx3 : (x : Int) < 256 := by omega
              clear hcx hxx hlen
              go_wp2_with fail
              go_loopg [11] k (fun gk jv wr => ∃ j : Nat, j + gk = k ∧ jv = .int .i64 j ∧ Hid (Mod nob wB wr))
              case atStart => exact ⟨0, by omega, rfl, HW⟩
              case round =>
                obtain ⟨j, hj, rfl, HW2⟩ := hrel
                clear d1
                by_cases hlt2 : j < k
                · have hji : (j : Int) < (k : Int) := by omega
                  have hjM : (j : Int) < (M : Int) := by omega
                  obtain ⟨ao', c', e, -, -, -, hcx⟩ := HNB.out.mod HW2.out (fun _ _ _ h => h)
                  have hlen := HMM.out
                  rw [← hlen] at e
                  simp only [Value.slice.injEq, Option.some.injEq] at e
                  obtain ⟨rfl, -, rfl⟩ := e
                  obtain ⟨g', o', e', d1⟩ := hcx k (by omega)
                  simp only [Option.some.injEq, Addr.mk.injEq, and_true] at e'
                  obtain ⟨rfl, rfl⟩ := e'
                  obtain ⟨g', o', e', d2⟩ := hcx j (by omega)
                  simp only [Option.some.injEq, Addr.mk.injEq, and_true] at e'
                  obtain ⟨rfl, rfl⟩ := e'
                  have hne : xs.getD j 0 ≠ xs.getD k 0 := HLI.out.pair j k hlt2 (by omega)
                  rw [← HXX.out] at d1 hne
                  obtain ⟨y, hyy⟩ : ∃ y, y = xs.getD j 0 := ⟨_, rfl⟩
                  rw [← hyy] at d2 hne
                  have hnb : ((y : Int) == (x : Int)) = false := beq_false_of_ne (by omega)
                  clear hcx hne hyy hlen
                  go_wp2_with fail
                  go_quiet (fail)
                  go_wp2_with fail
                  go_roundg (k - j - 1)
                  case measure => omega
                  case rel => exact ⟨j + 1, by omega, by go_num, HW2.out.drewN _⟩
                · have hge : ¬ (j : Int) < (k : Int) := by omega
                  go_wp2_with fail
                  go_roundg (M - k - 1)
                  case measure => omega
                  case rel => exact ⟨k + 1, by omega, by go_num, HW2⟩
            · have hge : ¬ (k : Int) < (M : Int) := by omega
              have HWT := Lib.hid (sheet_words (HST.out.mod HW.out (fun _ _ h => h)))
              go_wp2_with fail
              refine HWT.out.mono ?_
              rintro e wC ⟨G, gc, rfl, ⟨gc1, gc2⟩, hcell, hbC⟩
              unfold maxLen at gc2
              have HXC : Hid (Mod nob wB wC) := HW.out.step (mod_of_below hbC) (fun _ h => h)
              have HCELL : Hid (∀ wx, Mod nob wC wx → ∀ j, j < 3128 → wx.cell? ⟨G, j, none⟩ = some (.int .u64 (T.get (j : Int)))) := fun wx hm j hj => hm.cell (hcell j hj) (fun h => h)
              clear hcell hbC HWT
              go_wp2_with fail
              go_loopg [13] 8 (fun gk iv wr => ∃ q : Nat, q + gk = 856 ∧ 848 ≤ q ∧ iv = .int .i64 q ∧ Hid (Mod nob wC wr))
              case atStart => exact ⟨848, by omega, by omega, rfl, Mod.refl _ _⟩
              case round =>
                obtain ⟨q, hq, hq8, rfl, HW4⟩ := hrel
                by_cases hlt4 : q < 856
                · have hqi : (q : Int) < 856 := by omega
                  have hq0 : (848 : Int) ≤ (q : Int) := by omega
                  have HM4 : Hid (Mod nob wB wr) := HXC.out.step HW4.out (fun _ h => h)
                  have HRM := Lib.hid ((HIX.out.mod HM4.out (fun h => h)).at.range HMO.out.len)
                  have hwv := HLI.out.ino (q - 848) (by omega)
                  rw [show (824 + 3 * 8 + ((q - 848 : Nat) : Int)) = (q : Int) by omega] at hwv
                  obtain ⟨y, hyy⟩ : ∃ y, y = T.get (q : Int) := ⟨_, rfl⟩
                  rw [← hyy] at hwv
                  have HWQ := Lib.hid (HWD.out wr (q : Int) HM4.out (by omega) (by omega))
                  have hwv' : (word2At m 848 xs (q : Int)).1 = y := hwv
                  rw [hwv'] at HWQ
                  generalize (word2At m 848 xs (q : Int)).2 = bq at HWQ
                  have HYY := Lib.hid hyy
                  clear hwv hwv' hyy
                  go_upto_region 29 with (first
                    | (with_reducible refine wpList_load_mid (op := ⟨some 130, _, _, _, _, _⟩) rfl 37 _ rfl (X) 0 rfl (inoL m (.slice ma m.ents.length mc)) _ HRM.out Try.underlying37 rfl HSM.out ?_)
                    | (go_at_call 41; with_reducible refine HWQ.out.mono ?_; rintro e wz ⟨rfl, hbz⟩))
                  have HW5 : Hid (Mod nob wC wz) := HW4.out.step (mod_of_below hbz) (fun _ h => h)
                  have d1 := HCELL.out wz HW5.out q (by omega)
                  rw [← HYY.out] at d1
                  clear hbz
                  go_wp2_with fail
                  go_roundg (gk - 1)
                  case measure => omega
                  case rel => exact ⟨q + 1, by omega, by omega, by go_num, HW5⟩
                · have hge4 : ¬ (q : Int) < 856 := by omega
                  go_wp2_with fail
                  go_loopg [16] M (fun gk iv wr => ∃ k : Nat, k + gk = M ∧ iv = .int .i64 k ∧ Hid (Mod nob wC wr))
                  case atStart => exact ⟨0, by omega, rfl, HW4⟩
                  case round =>
                    obtain ⟨k, hk, rfl, HW5⟩ := hrel
                    by_cases hlt5 : k < M
                    · have hki : (k : Int) < (M : Int) := by omega
                      have hxr := HLI.out.mem _ (getD_in (l := xs) (a := k) (by have := HMM.out; omega))
                      obtain ⟨x, hxx⟩ : ∃ x, x = xs.getD k 0 := ⟨_, rfl⟩
                      rw [← hxx] at hxr
                      have HXX := Lib.hid hxx
                      have hx3 : (x : Int) < 256 := by omega
                      clear hxx
                      go_wp2_with fail
                      go_loopg [17] 8 (fun gk jv wr => ∃ j : Nat, j + gk = 8 ∧ jv = .int .i64 j ∧ Hid (Mod nob wC wr))
                      case atStart => exact ⟨0, by omega, rfl, HW5⟩
                      case round =>
                        obtain ⟨j, hj, rfl, HW6⟩ := hrel
                        by_cases hlt6 : j < 8
                        · have hji : (j : Int) < 8 := by omega
                          have HM6 : Hid (Mod nob wB wr) := HXC.out.step HW6.out (fun _ h => h)
                          have HRM := Lib.hid ((HIX.out.mod HM6.out (fun h => h)).at.range HMO.out.len)
                          obtain ⟨ao', c', e, -, -, -, hcx⟩ := HNB.out.mod HM6.out (fun _ _ _ h => h)
                          have hlen := HMM.out
                          rw [← hlen] at e
                          simp only [Value.slice.injEq] at e
                          obtain ⟨rfl, -, rfl⟩ := e
                          obtain ⟨g, o, rfl, d1⟩ := hcx k (by omega)
                          rw [← HXX.out] at d1
                          obtain ⟨q, hq⟩ : ∃ q : Nat, q = 1080 + 8 * x + j := ⟨_, rfl⟩
                          have hqi : 1080 + 8 * (x : Int) + (j : Int) = (q : Int) := by omega
                          have hq3 : (q : Int) < 3128 := by omega
                          have hwv := HLI.out.blk k (by omega) j hlt6
                          rw [← HXX.out, show (1080 + (x : Int) * 8 + (j : Int)) = (q : Int) by omega] at hwv
                          obtain ⟨y, hyy⟩ : ∃ y, y = T.get (q : Int) := ⟨_, rfl⟩
                          rw [← hyy] at hwv
                          have HW6d : Hid (Mod nob wC wr.drew) := HW6.out.step ((Mod.refl nob wr).drew) (fun _ h => h)
                          have HM6d : Hid (Mod nob wB wr.drew) := HXC.out.step HW6d.out (fun _ h => h)
                          have HWQ := Lib.hid (HWD.out wr.drew (q : Int) HM6d.out (by omega) (by omega))
                          have hwv' : (word2At m 848 xs (q : Int)).1 = y := hwv
                          rw [hwv'] at HWQ
                          generalize (word2At m 848 xs (q : Int)).2 = bq at HWQ
                          have HYY := Lib.hid hyy
                          have HRM : Hid (wr.drew.rangeAt X 0 (inoL m (.slice ma m.ents.length mc))) := (HIX.out.mod HM6d.out (fun h => h)).at.range HMO.out.len
                          have HD1 : Hid (wr.drew.cell? ⟨g, o + k, none⟩ = some (.int .i64 (x : Int))) := d1
                          have i1 : IntKind.i64.wrap (8 * (x : Int)) = 8 * (x : Int) := by rw [IntKind.wrap_i64]; omega
                          have i2 : IntKind.i64.wrap (1080 + 8 * (x : Int)) = 1080 + 8 * (x : Int) := by rw [IntKind.wrap_i64]; omega
                          have i3 : IntKind.i64.wrap (q : Int) = (q : Int) := by rw [IntKind.wrap_i64]; omega
                          have k0 : (0 : Int) ≤ (k : Int) := Int.natCast_nonneg _
                          clear hwv hwv' hyy hcx hlen hq
                          go_wp2_with fail
                          have HU37 := Lib.hid Try.underlying37
                          refine wp_region_noPanic ?_
                          refine wp_region_held_drew (S := fun w' => w'.rangeAt X 0 (inoL m (.slice ma m.ents.length mc)) ∧ w'.cell? ⟨g, o + k, none⟩ = some (.int .i64 (x : Int))) (by kernel_rfl) ⟨HRM.out, HD1.out⟩ (fun hHeld => ?_)
                          refine wpAnyH_take (i := 0) (v := .agg (inoL m (.slice ma m.ents.length mc)).toArray) rfl (by kernel_rfl) (by kernel_rfl) (by kernel_rfl) (fun _ _ _ h => h) (yieldsIf_load_mid (by rfl) 37 _ rfl X 0 rfl _ _ (fun _ h => h.1) HU37.out rfl HSM.out) hHeld ?_
                          simp only [Act.put, List.setIfInBounds_toArray, List.set_cons_zero, List.set_cons_succ]
                          refine wpAnyH_take (i := 1) (v := .slice (some ⟨g, o, none⟩) M xc) rfl (by kernel_rfl) (by kernel_rfl) (by kernel_rfl) (fun _ _ _ h => h) (Or.inl ⟨by rfl, ?_⟩) hHeld ?_
                          case refine_1 =>
                            rintro wx -
                            go_simp
                          simp only [Act.put, List.setIfInBounds_toArray, List.set_cons_zero, List.set_cons_succ]
                          refine wpAnyH_take (i := 2) (v := .slice (some ⟨g, o, none⟩) M xc) rfl (by kernel_rfl) (by kernel_rfl) (by kernel_rfl) (fun _ _ _ h => h) (Or.inl ⟨by rfl, ?_⟩) hHeld ?_
                          case refine_1 =>
                            rintro wx -
                            go_simp
                          simp only [Act.put, List.setIfInBounds_toArray, List.set_cons_zero, List.set_cons_succ]
                          refine wpAnyH_take (i := 3) (v := .int .i64 (k : Int)) rfl (by kernel_rfl) (by kernel_rfl) (by kernel_rfl) (fun _ _ _ h => h) (Or.inl ⟨by rfl, ?_⟩) hHeld ?_
                          case refine_1 =>
                            rintro wx -
                            go_simp
                          simp only [Act.put, List.setIfInBounds_toArray, List.set_cons_zero, List.set_cons_succ]
                          refine wpAnyH_take (i := 4) (v := .pointer (some ⟨g, o + k, none⟩)) rfl (by kernel_rfl) (by kernel_rfl) (by kernel_rfl) (fun _ _ _ h => h) (Or.inl ⟨by rfl, ?_⟩) hHeld ?_
                          case refine_1 =>
                            rintro wx -
                            go_simp
                          simp only [Act.put, List.setIfInBounds_toArray, List.set_cons_zero, List.set_cons_succ]
                          refine wpAnyH_take (i := 5) (v := .int .i64 (x : Int)) rfl (by kernel_rfl) (by kernel_rfl) (by kernel_rfl) (fun _ _ _ h => h) (Or.inl ⟨by rfl, ?_⟩) hHeld ?_
                          case refine_1 =>
                            rintro wx ⟨-, hs2⟩
                            go_simp
                          simp only [Act.put, List.setIfInBounds_toArray, List.set_cons_zero, List.set_cons_succ]
                          refine wpAnyH_take (i := 6) (v := .int .i64 (8 * (x : Int))) rfl (by kernel_rfl) (by kernel_rfl) (by kernel_rfl) (fun _ _ _ h => h) (Or.inl ⟨by rfl, ?_⟩) hHeld ?_
                          case refine_1 =>
                            rintro wx -
                            go_simp
                          simp only [Act.put, List.setIfInBounds_toArray, List.set_cons_zero, List.set_cons_succ]
                          refine wpAnyH_take (i := 7) (v := .int .i64 (1080 + 8 * (x : Int))) rfl (by kernel_rfl) (by kernel_rfl) (by kernel_rfl) (fun _ _ _ h => h) (Or.inl ⟨by rfl, ?_⟩) hHeld ?_
                          case refine_1 =>
                            rintro wx -
                            go_simp
                          simp only [Act.put, List.setIfInBounds_toArray, List.set_cons_zero, List.set_cons_succ]
                          refine wpAnyH_take (i := 8) (v := .int .i64 (j : Int)) rfl (by kernel_rfl) (by kernel_rfl) (by kernel_rfl) (fun _ _ _ h => h) (Or.inl ⟨by rfl, ?_⟩) hHeld ?_
                          case refine_1 =>
                            rintro wx -
                            go_simp
                          simp only [Act.put, List.setIfInBounds_toArray, List.set_cons_zero, List.set_cons_succ]
                          refine wpAnyH_take (i := 9) (v := .int .i64 (q : Int)) rfl (by kernel_rfl) (by kernel_rfl) (by kernel_rfl) (fun _ _ _ h => h) (Or.inl ⟨by rfl, ?_⟩) hHeld ?_
                          case refine_1 =>
                            rintro wx -
                            go_simp
                          simp only [Act.put, List.setIfInBounds_toArray, List.set_cons_zero, List.set_cons_succ]
                          refine wpAnyH_ready (rs := [10]) (by kernel_rfl) (by simp) ?_
                          refine AllReadyH.cons rfl (fun K hK => ?_) AllReadyH.nil
                          go_simp
                          refine HWQ.out.mono ?_
                          rintro e wz ⟨rfl, hbz⟩
                          have HZ : Hid (Mod nob wr.drew wz) := mod_of_below hbz
                          clear hbz
                          go_wp2_with fail
                          refine hK.out _ _ ⟨fun j v hj => HZ.out.cell (HRM.out j v hj) (fun h => h), HZ.out.cell HD1.out (fun h => h)⟩ (fun hHeld2 => ?_)
                          clear hK K
                          try simp only [Act.put, List.setIfInBounds_toArray, List.set_cons_zero, List.set_cons_succ]
                          refine wpAnyH_take (i := 11) (v := .tuple #[.int .u64 y, .bool bq]) rfl (by kernel_rfl) (by kernel_rfl) (by kernel_rfl) (fun _ _ _ h => h) (Or.inl ⟨by rfl, ?_⟩) hHeld2 ?_
                          case refine_1 =>
                            rintro wx -
                            go_simp
                          simp only [Act.put, List.setIfInBounds_toArray, List.set_cons_zero, List.set_cons_succ]
                          refine wpAnyH_take (i := 12) (v := .int .u64 y) rfl (by kernel_rfl) (by kernel_rfl) (by kernel_rfl) (fun _ _ _ h => h) (Or.inl ⟨by rfl, ?_⟩) hHeld2 ?_
                          case refine_1 =>
                            rintro wx -
                            go_simp
                          simp only [Act.put, List.setIfInBounds_toArray, List.set_cons_zero, List.set_cons_succ]
                          refine wpAnyH_take (i := 13) (v := .bool bq) rfl (by kernel_rfl) (by kernel_rfl) (by kernel_rfl) (fun _ _ _ h => h) (Or.inl ⟨by rfl, ?_⟩) hHeld2 ?_
                          case refine_1 =>
                            rintro wx -
                            go_simp
                          simp only [Act.put, List.setIfInBounds_toArray, List.set_cons_zero, List.set_cons_succ]
                          refine wpAnyH_take (i := 14) (v := .int .u64 y) rfl (by kernel_rfl) (by kernel_rfl) (by kernel_rfl) (fun _ _ _ h => h) (Or.inl ⟨by rfl, ?_⟩) hHeld2 ?_
                          case refine_1 =>
                            rintro wx -
                            go_simp
                          simp only [Act.put, List.setIfInBounds_toArray, List.set_cons_zero, List.set_cons_succ]
                          refine wpAnyH_take (i := 15) (v := .bool bq) rfl (by kernel_rfl) (by kernel_rfl) (by kernel_rfl) (fun _ _ _ h => h) (Or.inl ⟨by rfl, ?_⟩) hHeld2 ?_
                          case refine_1 =>
                            rintro wx -
                            go_simp
                          simp only [Act.put, List.setIfInBounds_toArray, List.set_cons_zero, List.set_cons_succ]
                          refine wpAnyH_done (by kernel_rfl) ?_ _
                          refine NoPanic.normal ?_
                          clear hHeld hHeld2
                          have HW7 : Hid (Mod nob wC wz) := HW6d.out.step HZ.out (fun _ h => h)
                          have d3 := HCELL.out wz HW7.out q (by omega)
                          rw [← HYY.out] at d3
                          have d1 := HZ.out.cell HD1.out (fun h => h)
                          clear HZ i1 i2 i3 k0
                          go_wp2_with fail
                          go_roundg (8 - j - 1)
                          case measure => omega
                          case rel => exact ⟨j + 1, by omega, by go_num, HW7⟩
                        · have hge6 : ¬ (j : Int) < 8 := by omega
                          go_wp2_with fail
                          go_roundg (M - k - 1)
                          case measure => omega
                          case rel => exact ⟨k + 1, by omega, by go_num, HW6⟩
                    · have hge5 : ¬ (k : Int) < (M : Int) := by omega
                      go_wp2_with fail
                      go_ret
                      exact ⟨rfl, HBB.out.trans ((HXC.out.step HW5.out (fun _ h => h)).below HBB.out.size (fun b h => h.elim))⟩
  · have hno : b1 = false ∨ b1 = true ∧ 6 < m0 := by
      cases b1
      · exact .inl rfl
      · exact .inr ⟨rfl, Nat.lt_of_not_le (fun h => hgo ⟨rfl, h⟩)⟩
    clear hgo
    rcases hno with rfl | ⟨rfl, h6⟩
    all_goals
      try (have h6i : (6 : Int) < (m0 : Int) := by omega)
      go_upto_if 31 with (first
        | ((refine wpList_unguard (o := ⟨some 23, _, _, _, _, _⟩) (by rfl) ?_; with_reducible refine wpList_load_mid (op := ⟨some 23, _, _, _, _, _⟩) rfl 37 _ rfl (n0) 0 rfl (inoL n (.slice ea n.ents.length ec)) _ HRA.out Try.underlying37 rfl HSA.out ?_))
        | (go_at_call 22; with_reducible refine (HFA.out _ HX.out).mono ?_; rintro e wz ⟨rfl, hbz⟩; have HX := Lib.hid (HX.out.step (mod_of_below hbz) (fun _ h => h)); clear hbz; have HRA := Lib.hid ((HA0.out.mod HX.out (fun h => h)).at.range HNO.out.len)))
      go_wp2_with fail
      refine (HAW.out _).mono ?_
      rintro e we ⟨rfl, hbz⟩
      have HX := Lib.hid (HX.out.step (mod_of_below hbz) (fun _ h => h))
      clear hbz
      go_wp2_with fail
      go_ret
      exact ⟨rfl, HBEL.out.trans (HX.out.below (by have := HZ.out; have := HN0.out; omega) (fun b h => h.elim))⟩
end Go.Proofs.Ytfpnmphmngdkdaa
