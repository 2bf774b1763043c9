/-
  The law InodeBent: the walk. No condition.
-/
import Derived.Test.YtlopdbhjdijlmaaQAll8
import Derived.Test.YtlopdbhjdijlmaaQTurnsM
import Derived.Test.YtlopdbhjdijlmaaQOpenIno
import Derived.StillTailTactics

namespace Go.Proofs.Ytlopdbhjdijlmaa
open Go.ChangeShapes Go.WideShapes Go.ChangeAt Go.RowKit
set_option linter.unusedSimpArgs false
set_option linter.unusedVariables false

theorem tmod_facts8 (x : Int) : ∃ m1 : Int, Int.tmod x 300 = m1 ∧ -300 < m1 ∧ m1 < 300 ∧ 0 ≤ (m1 + 300) % 300 ∧ (m1 + 300) % 300 < 300 := by
  have h1 : -300 < Int.tmod x 300 := Int.lt_tmod_of_pos x (by omega)
  have h2 : Int.tmod x 300 < 300 := Int.tmod_lt_of_pos x (by omega)
  exact ⟨_, rfl, h1, h2, by omega, by omega⟩

theorem getE_vals (S : Sh) {i : Int} (hi : 0 ≤ i ∧ i < 32) : (getE S i = 0 ∧ ∃ m xs, getR S i = some (m, xs)) ∨ (getE S i = 2 ∧ freeI S i = true ∧ getR S i = none) ∨ (getE S i = 10 ∧ getR S i = none) := by
  have hi' : ¬ (i < 0 ∨ 32 ≤ i) := by omega
  by_cases h : freeI S i = true
  · have g1 : getE S i = 2 := by unfold getE; rw [if_neg hi', if_pos h]
    have g2 : getR S i = none := by unfold getR; rw [if_neg hi', if_pos h]
    exact .inr (.inl ⟨g1, h, g2⟩)
  · have g2 : getR S i = rdI S i := by unfold getR; rw [if_neg hi', if_neg h]
    cases hr : rdI S i with
    | none =>
      have g1 : getE S i = 10 := by unfold getE; rw [if_neg hi', if_neg h, hr]
      exact .inr (.inr ⟨g1, by rw [g2, hr]⟩)
    | some r =>
      have g1 : getE S i = 0 := by unfold getE; rw [if_neg hi', if_neg h, hr]
      exact .inl ⟨g1, r.1, r.2, by rw [g2, hr]⟩

def n11 : Ino := ⟨1, 1, 0, 0, List.replicate 13 0, []⟩
theorem n11_ok : n11.Ok := by
  refine ⟨by unfold n11 i64; decide, by unfold n11 i64; decide, by unfold n11 i64; decide, by unfold n11 i64; decide, by simp [n11], fun x hx => ?_, fun x hx => by cases hx⟩
  have hx' : x ∈ List.replicate 13 (0 : Int) := hx
  rw [List.eq_of_mem_replicate hx']
  unfold i64; omega
theorem put_corrupt {T : Sh} {i : Int} (hi : 0 ≤ i ∧ i < 32) (h : getE T i = 10) {n : Ino} (hr : RightP n) : putI T i n = (10, T) := by
  unfold putI
  rw [if_neg (by omega), if_neg (fun g => g hr), if_pos h]
theorem drop_err {T : Sh} {i : Int} {e : Int} (h : getE T i = e) (h0 : e ≠ 0) : dropI T i = (e, T) := by
  unfold dropI
  rw [if_neg (by rw [h]; exact h0), h]

set_option maxRecDepth 20000 in
set_option maxHeartbeats 4000000 in
theorem law_bent {w : World} {n : Ino} {ev bv : Value} {ps : List (Int × Int)} (hn : n.Ok) (he : HoldsE w ev n.ents) (hp : HoldsPr w bv ps) (hpo : PrOk ps) :
    Calls Try.prog 5 #[.agg (inoA n ev), bv] w fun e w' => e = .returned (.bool true) ∧ Below w.heap.size w w' := by
  have HNO := Lib.hid hn
  have HPO := Lib.hid hpo
  have HBEL : Hid (Below w.heap.size w (w.alloc (.cells (inoA n ev) 25))) := (Below.refl _ _).alloc (Nat.le_refl _) _
  have HA0 : Hid (InoB (w.alloc (.cells (inoA n ev) 25)) w.heap.size n ev) := InoB.new w hn.len ev
  have HE := Lib.hid (he.below HBEL.out)
  have HP := Lib.hid (hp.mod (mod_of_below HBEL.out) (fun _ _ _ h => h))
  have HLE : Hid (n.ents ≠ [] → ∀ g, ev.ownBlock = some g → g < w.heap.size) := he.lt
  have HLP : Hid (ps ≠ [] → ∀ g, bv.ownBlock = some g → g < w.heap.size) := hp.lt
  obtain ⟨ea, ec, rfl, -, -, -, -⟩ := he
  obtain ⟨ba, bc, rfl, q1, q2, -⟩ := hp
  obtain ⟨m0, hm0⟩ : ∃ m0, m0 = ps.length := ⟨_, rfl⟩
  rw [← hm0] at HP HLP q1 ⊢
  have HM0 := Lib.hid hm0
  unfold maxLen at q2
  obtain ⟨b1, hb1⟩ : ∃ x, x = fewB n := ⟨_, rfl⟩
  have HFA : Hid (∀ wx, Mod nob (w.alloc (.cells (inoA n (.slice ea n.ents.length ec)) 25)) wx → Calls Try.prog 10 #[.agg (inoL n (.slice ea n.ents.length ec)).toArray] wx fun e w' => e = .returned (.bool b1) ∧ Below wx.heap.size wx w') := fun wx hm => by
    rw [hb1]
    exact few6 HNO.out (HE.out.mod hm (fun _ _ _ h => h))
  have HSA : Hid ((Try.prog.info? 25).map (·.size) = some (inoL n (.slice ea n.ents.length ec)).length) := by
    unfold Hid; rw [inoL_len hn.len]; exact Try.info18
  have HAW : Hid (∀ wx, Calls Try.prog 17 #[] wx fun e w' => e = .returned (.bool true) ∧ Below wx.heap.size wx w') := fun wx => awake8 wx
  have HTX : Hid (∀ wx, Calls Try.prog 30 #[.slice none 0 0] wx fun e w' => ∃ p, e = .returned (.pointer (some ⟨p, 0, none⟩)) ∧ SheetAt w' p (grow nob wx w') (Sh.new []) ∧ Below wx.heap.size wx w') := fun wx => tx_new (HoldsU.nil wx) (fun z hz => by cases hz)
  have hsz0 : (w.alloc (.cells (inoA n (.slice ea n.ents.length ec)) 25)).heap.size = w.heap.size + 1 := by simp
  have HZ := Lib.hid hsz0
  clear hn hpo hb1 hsz0 hm0
  go_enter Try.func5, Try.ntmps5
  go_wp2_with fail
  generalize w.alloc (.cells (inoA n (.slice ea n.ents.length ec)) 25) = w0 at *
  obtain ⟨n0, hn0⟩ : ∃ n0, n0 = w.heap.size := ⟨_, rfl⟩
  have HN0 := Lib.hid hn0
  rw [← hn0] at HA0 HZ HLE HLP ⊢
  clear hn0
  have HX : Hid (Mod nob w0 w0) := Mod.refl nob w0
  refine (HAW.out _).mono ?_
  rintro e wz ⟨rfl, hbz⟩
  have HX := Lib.hid (HX.out.step (mod_of_below hbz) (fun _ h => h))
  clear hbz
  have HRA := Lib.hid ((HA0.out.mod HX.out (fun h => h)).at.range HNO.out.len)
  by_cases hgo : b1 = true ∧ m0 ≤ 5
  · obtain ⟨rfl, hm5⟩ := hgo
    have hm5i : ¬ (5 : Int) < (m0 : Int) := by omega
    go_upto_region 3 with (first
        | ((refine wpList_unguard (o := ⟨some 14, _, _, _, _, _⟩) (by rfl) ?_; with_reducible refine wpList_load_mid (op := ⟨some 14, _, _, _, _, _⟩) rfl 25 _ rfl (n0) 0 rfl (inoL n (.slice ea n.ents.length ec)) _ HRA.out Try.underlying25 rfl HSA.out ?_))
        | (go_at_call 10; with_reducible refine (HFA.out _ HX.out).mono ?_; rintro e wz ⟨rfl, hbz⟩; have HX := Lib.hid (HX.out.step (mod_of_below hbz) (fun _ h => h)); clear hbz; have HRA := Lib.hid ((HA0.out.mod HX.out (fun h => h)).at.range HNO.out.len)))
    go_upto_region 4 with (go_at_call 30; refine (HTX.out _).mono ?_; rintro e ws ⟨p, rfl, hs, hbz⟩)
    have HXS : Hid (Mod nob w0 ws) := HX.out.step (mod_of_below hbz) (fun _ h => h)
    have hz1 := HX.out.size
    obtain ⟨D, hD⟩ : ∃ D, D = grow nob wz ws := ⟨_, rfl⟩
    rw [← hD] at hs
    have HD : Hid (∀ b, D b → n0 + 1 ≤ b) := fun b hb => by
      rw [hD] at hb
      have := HZ.out
      rcases hb with hb | hb
      · exact hb.elim
      · omega
    have HS := Lib.hid hs
    have KA : Hid (Keep ws D n0 n (.slice ea n.ents.length ec)) := ⟨HA0.out.mod HXS.out (fun h => h), HE.out.mod HXS.out (fun _ _ _ h => h), fun h => by have := HD.out _ h; omega, fun h0 g hg h => by have h1 := HLE.out h0 g hg; have h2 := HD.out g h; omega⟩
    have HPS : Hid (HoldsPr ws (.slice ba m0 bc) ps) := HP.out.mod HXS.out (fun _ _ _ h => h)
    have HBS : Hid (Below w.heap.size w ws) := by
      have h1 := HN0.out
      have h2 := HZ.out
      exact HBEL.out.trans (HXS.out.below (by omega) (fun b h => h.elim))
    obtain ⟨S0, hS0⟩ : ∃ S, S = Sh.new [] := ⟨_, rfl⟩
    rw [← hS0] at HS
    have hwas0 : S0.was.length = 0 := by rw [hS0]; rfl
    have HPC := Lib.hid (put_ino HS.out (by omega) 3 HNO.out KA.out.ents KA.out.ne)
    have hws1 := putI_was HS.out.ok (i := 3) HNO.out
    obtain ⟨e1, he1⟩ : ∃ e, e = (putI S0 3 n).1 := ⟨_, rfl⟩
    obtain ⟨S1, hS1⟩ : ∃ T, T = (putI S0 3 n).2 := ⟨_, rfl⟩
    rw [← he1, ← hS1] at HPC
    rw [← hS1] at hws1
    have HWS1 : Hid (S1.was.length ≤ 3100) := by unfold Hid; omega
    have HRA := Lib.hid KA.out.range
    clear hs hbz hz1 hD HA0 HE HLE HX HXS HBEL HZ HTX HAW HFA hS0 hwas0 he1 hS1 hws1 HP
    go_upto_region 5 with (first
      | (with_reducible refine wpList_load_mid (op := ⟨some 26, _, _, _, _, _⟩) rfl 25 _ rfl (n0) 0 rfl (inoL n (.slice ea n.ents.length ec)) _ HRA.out Try.underlying25 rfl HSA.out ?_)
      | (go_at_call 21; refine HPC.out.mono ?_; rintro e w5 ⟨rfl, hk5⟩))
    have HK5 : Hid (ShStep ws p D w5 S1) := hk5
    clear hk5 HPC HRA
    go_wp2_with fail
    go_loopg [6] m0 (fun gk iv wr => ∃ k : Nat, k + gk = m0 ∧ iv = .int .i64 k ∧ Hid (∃ Sk, ShStep ws p D wr Sk ∧ Sk.was.length ≤ 3100 + k))
    case atStart => exact ⟨0, by omega, rfl, S1, HK5.out, HWS1.out⟩
    case round =>
      obtain ⟨k, hk, rfl, HKS⟩ := hrel
      by_cases hlt : k < m0
      · have hki : (k : Int) < (m0 : Int) := by omega
        obtain ⟨Sk, hkS, hkW⟩ := HKS.out
        obtain ⟨ao', c', e, -, -, hcx⟩ := HPS.out.mod hkS.2 (fun h0 g hg hdg => by have h1 := HLP.out h0 g hg; have h2 := HD.out g hdg; omega)
        simp only [Value.slice.injEq] at e
        obtain ⟨rfl, -, rfl⟩ := e
        have hkl : k < ps.length := by have := HM0.out; omega
        obtain ⟨g, o, rfl, d1, d2⟩ := hcx k hkl
        have hpk := HPO.out k hkl
        obtain ⟨x, hxx⟩ : ∃ x, x = (ps.getD k (0, 0)).1 := ⟨_, rfl⟩
        obtain ⟨y, hyy⟩ : ∃ y, y = (ps.getD k (0, 0)).2 := ⟨_, rfl⟩
        rw [← hxx, ← hyy] at hpk
        rw [← hxx] at d1
        rw [← hyy] at d2
        obtain ⟨⟨x0, x1⟩, y0, y1⟩ := hpk
        obtain ⟨m1, t1, t3, t4, t5, t6⟩ := tmod_facts8 x
        have hwl : Sk.was.length < 1099511627776 := by omega
        have HPUT := Lib.hid (sheet_put (hkS.1.mod (D0 := nob) ((Mod.refl nob wr).drew) (fun _ _ h => h)) hwl (848 + (m1 + 300) % 300) y y0 y1)
        have HKK := Lib.hid hkS
        have HKW := Lib.hid hkW
        clear hcx hxx hyy hkS hkW hwl hkl
        go_wp2_with fail
        go_still_tail 15, (by kernel_rfl)
        go_wp2_with (go_at_call 31; with_reducible refine HPUT.out.mono ?_; rintro e w6 ⟨rfl, h6, m6⟩)
        have HN6 : Hid (∃ Sn, ShStep ws p D w6 Sn ∧ Sn.was.length ≤ 3100 + (k + 1)) := ⟨_, HKK.out.over ((Mod.refl nob wr).drew) ⟨h6, m6⟩, by have h1 := Sh.put_was_le Sk (848 + (m1 + 300) % 300) y; have h2 := HKW.out; omega⟩
        clear h6 m6
        go_wp2_with fail
        go_roundg (gk - 1)
        case measure => omega
        case rel => exact ⟨k + 1, by omega, by go_num, HN6⟩
      · have hge : ¬ (k : Int) < (m0 : Int) := by omega
        obtain rfl : k = m0 := by omega
        obtain ⟨T, hkT, hwT⟩ := HKS.out
        have HKT := Lib.hid hkT
        have hwT2 : T.was.length ≤ 4000 := by omega
        have HWT := Lib.hid hwT2
        have HBK : Hid (Below w.heap.size w wr) := HBS.out.trans (hkT.2.below HBS.out.size (fun b h => by have := HD.out b h; have := HN0.out; omega))
        have HDW : Hid (∀ b, grow D ws wr b → w.heap.size ≤ b) := fun b hb => by
          rcases hb with hb | hb
          · have := HD.out b hb; have := HN0.out; omega
          · have := HBS.out.size; omega
        have HST : Hid (SheetAt wr p (grow D ws wr) T) := hkT.1
        obtain ⟨D1, hD1⟩ : ∃ D', D' = grow D ws wr := ⟨_, rfl⟩
        rw [← hD1] at HST HDW
        obtain ⟨mk, hmk⟩ : ∃ mk, mk = T.was.length := ⟨_, rfl⟩
        have HMK : Hid (∀ wx D', SheetAt wx p D' T → Calls Try.prog 32 #[.pointer (some ⟨p, 0, none⟩)] wx fun e w' => e = .returned (.int .i64 mk) ∧ wx = w') := fun wx D' h => by rw [hmk]; exact sheet_mark h
        have HGT := Lib.hid (get_ino HST.out 3)
        have hcase := getE_vals T (i := 3) ⟨by omega, by omega⟩
        have HCASE := Lib.hid hcase
        clear hkT hwT hwT2 hD1 hmk HKS HKT HBS HPS HLP HD KA HN0 hcase
        rcases HCASE.out with ⟨hge0, m, xs, hgr⟩ | ⟨hge2, hfr, hgr⟩ | ⟨hge10, hgr⟩
        · obtain ⟨-, hmo, hmr, -, -⟩ := getR_law HST.out.ok hgr
          have HMO := Lib.hid hmo
          have HMR := Lib.hid hmr
          rw [hgr, hge0] at HGT
          have hdl := dropI_free hge0
          have HDL := Lib.hid hdl
          have HDR : Hid (∀ wx D', SheetAt wx p D' T → Calls Try.prog 23 #[.pointer (some ⟨p, 0, none⟩), .int .i64 3] wx fun e w' => e = .returned (.int .i64 0) ∧ ShStep wx p D' w' (dropI T 3).2) := fun wx D' h => by
            have := drop_ino h (by have := HWT.out; omega) 3
            rw [HDL.out.1] at this
            exact this
          have HFR : Hid (∀ wx D', SheetAt wx p D' (dropI T 3).2 → Calls Try.prog 27 #[.pointer (some ⟨p, 0, none⟩), .int .i64 3] wx fun e w' => e = .returned (.bool true) ∧ wx = w') := fun wx D' h => by
            have := ino_free h 3
            rw [HDL.out.2] at this
            exact this
          clear hge0 hgr hmo hmr hdl HCASE
          go_upto_region 10 with (go_at_call 32; refine (HMK.out _ _ HST.out).mono ?_; rintro e w' ⟨rfl, rfl⟩)
          go_wp2_with fail
          refine HGT.out.mono ?_
          rintro e w7 ⟨hb7, mv, xv, rfl, hmv, hxv, -, -⟩
          have HB7 := Lib.hid hb7
          have HMV := Lib.hid hmv
          obtain ⟨ma, mc, rfl, -, -, -, -⟩ := hmv
          clear hb7 HGT hxv
          have hszA : (inoL m (.slice ma m.ents.length mc)).toArray.size = 18 := by simp [inoL_len HMO.out.len]
          have HTH : Hid ((w7.alloc (.cells z18 25)).there w7.heap.size 0 (inoL m (.slice ma m.ents.length mc)).toArray.size) := by
            unfold Hid; rw [hszA]; exact ino_there w7 _
          have HISZ : Hid ((Try.prog.info? 25).map (·.size) = some (inoL m (.slice ma m.ents.length mc)).toArray.size) := by
            unfold Hid; rw [hszA]; exact Try.info18
          have HONE : Hid ((inoL m (.slice ma m.ents.length mc)).toArray.all (·.oneCell') = true) := all_oneCell_toArray (inoL_one rfl)
          have HROW := Lib.hid (ino_row w7 25 (inoL m (.slice ma m.ents.length mc)) (inoL_len HMO.out.len _))
          clear hszA
          go_upto_region 15 with (with_reducible refine wpList_store_mid (op := ⟨none, _, _, _, _, _⟩) rfl 25 _ _ rfl w7.heap.size 0 (inoL m (.slice ma m.ents.length mc)).toArray rfl rfl HTH.out HISZ.out HONE.out ?_)
          have HHP : Hid (((w7.alloc (.cells z18 25)).setCells w7.heap.size 0 (inoL m (.slice ma m.ents.length mc))).heap[w7.heap.size]? = some (.cells (inoL m (.slice ma m.ents.length mc)).toArray 25 (0, 0))) := HROW.out.1
          have HMX : Hid (Mod nob w7 ((w7.alloc (.cells z18 25)).setCells w7.heap.size 0 (inoL m (.slice ma m.ents.length mc)))) := mod_of_below HROW.out.2
          clear HROW HTH HISZ HONE
          generalize (w7.alloc (.cells z18 25)).setCells w7.heap.size 0 (inoL m (.slice ma m.ents.length mc)) = w8 at *
          obtain ⟨X, hX⟩ : ∃ X, X = w7.heap.size := ⟨_, rfl⟩
          rw [← hX] at HHP ⊢
          clear hX
          have HIX : Hid (InoB w8 X m (.slice ma m.ents.length mc)) := ⟨HHP.out, HMO.out.len⟩
          have HM8 : Hid (Mod nob wr w8) := (mod_of_below HB7.out).step HMX.out (fun _ h => h)
          have HS8 := Lib.hid (HST.out.mod HM8.out (fun _ _ h => h))
          have HISL : Hid ((Try.prog.info? 25).map (·.size) = some (inoL m (.slice ma m.ents.length mc)).length) := by
            unfold Hid; rw [inoL_len HMO.out.len]; exact Try.info18
          have HRR : Hid (Calls Try.prog 11 #[.agg (inoL m (.slice ma m.ents.length mc)).toArray] w8 fun e w' => e = .returned (.bool true) ∧ Below w8.heap.size w8 w') := by
            have := ref_right HMO.out (HMV.out.mod HMX.out (fun _ _ _ h => h))
            rw [rightB_true HMR.out] at this
            exact this
          have HRX := Lib.hid (HIX.out.at.range HMO.out.len)
          clear HMX HB7 HMV HHP
          go_wp2_with (first
            | ((refine wpList_unguard (o := ⟨some 93, _, _, _, _, _⟩) (by rfl) ?_; with_reducible refine wpList_load_mid (op := ⟨some 93, _, _, _, _, _⟩) rfl 25 _ rfl X 0 rfl (inoL m (.slice ma m.ents.length mc)) _ HRX.out Try.underlying25 rfl HISL.out ?_))
            | (go_at_call 11; refine HRR.out.mono ?_; rintro e w9 ⟨rfl, hb9⟩; have HS9 := Lib.hid (HS8.out.mod (mod_of_below hb9) (fun _ _ h => h)))
            | (go_at_call 23; refine (HDR.out _ _ HS9.out).mono ?_; rintro e wd ⟨rfl, hkd⟩)
            | (go_at_call 27; refine (HFR.out _ _ hkd.1).mono ?_; rintro e w' ⟨rfl, rfl⟩))
          go_ret
          have hm9 : Mod nob wr w9 := HM8.out.step (mod_of_below hb9) (fun _ h => h)
          have hb := HBK.out.trans (hm9.below HBK.out.size (fun b h => h.elim))
          exact ⟨rfl, hb.trans (hkd.2.below hb.size (fun b h => HDW.out b h))⟩
        · rw [hgr, hge2] at HGT
          have hde := drop_err hge2 (by decide)
          have HDE := Lib.hid hde
          have HFT := Lib.hid hfr
          have HDR : Hid (∀ wx D', SheetAt wx p D' T → Calls Try.prog 23 #[.pointer (some ⟨p, 0, none⟩), .int .i64 3] wx fun e w' => e = .returned (.int .i64 2) ∧ ShStep wx p D' w' T) := fun wx D' h => by
            have := drop_ino h (by have := HWT.out; omega) 3
            rw [HDE.out] at this
            exact this
          have HFR : Hid (∀ wx D', SheetAt wx p D' T → Calls Try.prog 27 #[.pointer (some ⟨p, 0, none⟩), .int .i64 3] wx fun e w' => e = .returned (.bool true) ∧ wx = w') := fun wx D' h => by
            have := ino_free h 3
            rw [HFT.out] at this
            exact this
          clear hge2 hgr hde hfr HCASE
          go_upto_region 10 with (go_at_call 32; refine (HMK.out _ _ HST.out).mono ?_; rintro e w' ⟨rfl, rfl⟩)
          go_wp2_with fail
          refine HGT.out.mono ?_
          rintro e w7 ⟨hb7, rfl⟩
          have HB7 := Lib.hid hb7
          clear hb7 HGT
          have hszA : (inoL ino0 (.slice none 0 0)).toArray.size = 18 := by simp [inoL_len (show ino0.bl.length = 13 from rfl)]
          have HTH : Hid ((w7.alloc (.cells z18 25)).there w7.heap.size 0 (inoL ino0 (.slice none 0 0)).toArray.size) := by
            unfold Hid; rw [hszA]; exact ino_there w7 _
          have HISZ : Hid ((Try.prog.info? 25).map (·.size) = some (inoL ino0 (.slice none 0 0)).toArray.size) := by
            unfold Hid; rw [hszA]; exact Try.info18
          have HONE : Hid ((inoL ino0 (.slice none 0 0)).toArray.all (·.oneCell') = true) := all_oneCell_toArray (inoL_one rfl)
          have HROW := Lib.hid (ino_row w7 25 (inoL ino0 (.slice none 0 0)) (inoL_len (show ino0.bl.length = 13 from rfl) _))
          clear hszA
          go_upto_region 14 with (with_reducible refine wpList_store_mid (op := ⟨none, _, _, _, _, _⟩) rfl 25 _ _ rfl w7.heap.size 0 (inoL ino0 (.slice none 0 0)).toArray rfl rfl HTH.out HISZ.out HONE.out ?_)
          have HHP : Hid (((w7.alloc (.cells z18 25)).setCells w7.heap.size 0 (inoL ino0 (.slice none 0 0))).heap[w7.heap.size]? = some (.cells (inoL ino0 (.slice none 0 0)).toArray 25 (0, 0))) := HROW.out.1
          have HMX : Hid (Mod nob w7 ((w7.alloc (.cells z18 25)).setCells w7.heap.size 0 (inoL ino0 (.slice none 0 0)))) := mod_of_below HROW.out.2
          clear HROW HTH HISZ HONE
          generalize (w7.alloc (.cells z18 25)).setCells w7.heap.size 0 (inoL ino0 (.slice none 0 0)) = w8 at *
          obtain ⟨X, hX⟩ : ∃ X, X = w7.heap.size := ⟨_, rfl⟩
          rw [← hX] at HHP ⊢
          clear hX
          have HM8 : Hid (Mod nob wr w8) := (mod_of_below HB7.out).step HMX.out (fun _ h => h)
          have HS8 := Lib.hid (HST.out.mod HM8.out (fun _ _ h => h))
          clear HMX HB7 HHP
          go_wp2_with (first
            | (go_at_call 27; refine (HFR.out _ _ HS8.out).mono ?_; rintro e w' ⟨rfl, rfl⟩)
            | (go_at_call 23; refine (HDR.out _ _ HS8.out).mono ?_; rintro e wd ⟨rfl, hkd⟩))
          go_ret
          have hb := HBK.out.trans (HM8.out.below HBK.out.size (fun b h => h.elim))
          exact ⟨rfl, hb.trans (hkd.2.below hb.size (fun b h => HDW.out b h))⟩
        · rw [hgr, hge10] at HGT
          have hde := drop_err hge10 (by decide)
          have HDE := Lib.hid hde
          have hpe := put_corrupt (i := 3) ⟨by omega, by omega⟩ hge10 (n := n11) right_new
          have HPE := Lib.hid hpe
          have hal : allI T 3 = [] := by unfold allI; rw [hgr]
          have HAE := Lib.hid hal
          have HDR : Hid (∀ wx D', SheetAt wx p D' T → Calls Try.prog 23 #[.pointer (some ⟨p, 0, none⟩), .int .i64 3] wx fun e w' => e = .returned (.int .i64 10) ∧ ShStep wx p D' w' T) := fun wx D' h => by
            have := drop_ino h (by have := HWT.out; omega) 3
            rw [HDE.out] at this
            exact this
          have HPC : Hid (∀ wx D', SheetAt wx p D' T → Calls Try.prog 21 #[.pointer (some ⟨p, 0, none⟩), .int .i64 3, .agg #[.int .i64 1, .int .i64 1, .int .i64 0, .int .i64 0, .int .i64 0, .int .i64 0, .int .i64 0, .int .i64 0, .int .i64 0, .int .i64 0, .int .i64 0, .int .i64 0, .int .i64 0, .int .i64 0, .int .i64 0, .int .i64 0, .int .i64 0, .slice none 0 0]] wx fun e w' => e = .returned (.int .i64 10) ∧ ShStep wx p D' w' T) := fun wx D' h => by
            have := put_ino h (by have := HWT.out; omega) 3 n11_ok (HoldsE.nil wx) (fun h => absurd rfl h)
            rw [HPE.out] at this
            exact this
          have HAL : Hid (∀ wx D', SheetAt wx p D' T → Calls Try.prog 28 #[.pointer (some ⟨p, 0, none⟩), .int .i64 3] wx fun e w' => ∃ ao c, e = .returned (.slice ao 0 c) ∧ Below wx.heap.size wx w') := fun wx D' h => by
            refine (all_ino h 3).mono (fun e w' hh => ?_)
            obtain ⟨v, rfl, hv, -, hb⟩ := hh
            rw [HAE.out] at hv
            obtain ⟨ao, c, rfl, -, -, -, -⟩ := hv
            exact ⟨ao, c, rfl, hb⟩
          clear hge10 hgr hde hpe hal HCASE
          go_upto_region 10 with (go_at_call 32; refine (HMK.out _ _ HST.out).mono ?_; rintro e w' ⟨rfl, rfl⟩)
          go_wp2_with fail
          refine HGT.out.mono ?_
          rintro e w7 ⟨hb7, rfl⟩
          have HB7 := Lib.hid hb7
          clear hb7 HGT
          have hszA : (inoL ino0 (.slice none 0 0)).toArray.size = 18 := by simp [inoL_len (show ino0.bl.length = 13 from rfl)]
          have HTH : Hid ((w7.alloc (.cells z18 25)).there w7.heap.size 0 (inoL ino0 (.slice none 0 0)).toArray.size) := by
            unfold Hid; rw [hszA]; exact ino_there w7 _
          have HISZ : Hid ((Try.prog.info? 25).map (·.size) = some (inoL ino0 (.slice none 0 0)).toArray.size) := by
            unfold Hid; rw [hszA]; exact Try.info18
          have HONE : Hid ((inoL ino0 (.slice none 0 0)).toArray.all (·.oneCell') = true) := all_oneCell_toArray (inoL_one rfl)
          have HROW := Lib.hid (ino_row w7 25 (inoL ino0 (.slice none 0 0)) (inoL_len (show ino0.bl.length = 13 from rfl) _))
          clear hszA
          go_upto_region 12 with (with_reducible refine wpList_store_mid (op := ⟨none, _, _, _, _, _⟩) rfl 25 _ _ rfl w7.heap.size 0 (inoL ino0 (.slice none 0 0)).toArray rfl rfl HTH.out HISZ.out HONE.out ?_)
          have HHP : Hid (((w7.alloc (.cells z18 25)).setCells w7.heap.size 0 (inoL ino0 (.slice none 0 0))).heap[w7.heap.size]? = some (.cells (inoL ino0 (.slice none 0 0)).toArray 25 (0, 0))) := HROW.out.1
          have HMX : Hid (Mod nob w7 ((w7.alloc (.cells z18 25)).setCells w7.heap.size 0 (inoL ino0 (.slice none 0 0)))) := mod_of_below HROW.out.2
          clear HROW HTH HISZ HONE
          generalize (w7.alloc (.cells z18 25)).setCells w7.heap.size 0 (inoL ino0 (.slice none 0 0)) = w8 at *
          obtain ⟨X, hX⟩ : ∃ X, X = w7.heap.size := ⟨_, rfl⟩
          rw [← hX] at HHP ⊢
          clear hX
          have HM8 : Hid (Mod nob wr w8) := (mod_of_below HB7.out).step HMX.out (fun _ h => h)
          have HS8 := Lib.hid (HST.out.mod HM8.out (fun _ _ h => h))
          clear HMX HB7 HHP
          go_wp2_with (first
            | (go_at_call 21; refine (HPC.out _ _ HS8.out).mono ?_; rintro e wp ⟨rfl, hkp⟩)
            | (go_at_call 23; refine (HDR.out _ _ hkp.1).mono ?_; rintro e wd ⟨rfl, hkd⟩)
            | (go_at_call 32; refine (HMK.out _ _ hkd.1).mono ?_; rintro e w' ⟨rfl, rfl⟩)
            | (go_at_call 28; refine (HAL.out _ _ hkd.1).mono ?_; rintro e wa ⟨aa, ac, rfl, hba⟩))
          go_ret
          have hb := HBK.out.trans (HM8.out.below HBK.out.size (fun b h => h.elim))
          have hb2 := hb.trans (hkp.2.below hb.size (fun b h => HDW.out b h))
          have hb3 := hb2.trans (hkd.2.below hb2.size (fun b h => by
            rcases h with h | h
            · exact HDW.out b h
            · have := hb.size; omega))
          exact ⟨rfl, hb3.trans (hba.mono hb3.size)⟩
  · have hno : b1 = false ∨ b1 = true ∧ 5 < m0 := by
      cases b1
      · exact .inl rfl
      · exact .inr ⟨rfl, Nat.lt_of_not_le (fun h => hgo ⟨rfl, h⟩)⟩
    clear hgo
    rcases hno with rfl | ⟨rfl, h6⟩
    all_goals
      try (have h6i : (5 : Int) < (m0 : Int) := by omega)
      go_upto_if 22 with (first
        | ((refine wpList_unguard (o := ⟨some 14, _, _, _, _, _⟩) (by rfl) ?_; with_reducible refine wpList_load_mid (op := ⟨some 14, _, _, _, _, _⟩) rfl 25 _ rfl (n0) 0 rfl (inoL n (.slice ea n.ents.length ec)) _ HRA.out Try.underlying25 rfl HSA.out ?_))
        | (go_at_call 10; with_reducible refine (HFA.out _ HX.out).mono ?_; rintro e wz ⟨rfl, hbz⟩; have HX := Lib.hid (HX.out.step (mod_of_below hbz) (fun _ h => h)); clear hbz; have HRA := Lib.hid ((HA0.out.mod HX.out (fun h => h)).at.range HNO.out.len)))
      go_wp2_with fail
      refine (HAW.out _).mono ?_
      rintro e we ⟨rfl, hbz⟩
      have HX := Lib.hid (HX.out.step (mod_of_below hbz) (fun _ h => h))
      clear hbz
      go_wp2_with fail
      go_ret
      exact ⟨rfl, HBEL.out.trans (HX.out.below (by have := HZ.out; have := HN0.out; omega) (fun b h => h.elim))⟩
end Go.Proofs.Ytlopdbhjdijlmaa
