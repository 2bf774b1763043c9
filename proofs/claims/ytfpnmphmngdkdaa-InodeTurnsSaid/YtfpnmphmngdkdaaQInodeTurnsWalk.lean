/-
  The law InodeTurns: the walk. No condition.
-/
import Derived.Test.YtfpnmphmngdkdaaQTurnsM

namespace Go.Proofs.Ytfpnmphmngdkdaa
open Go.ChangeShapes Go.WideShapes Go.ChangeAt Go.RowKit
set_option linter.unusedSimpArgs false
set_option linter.unusedVariables false

theorem Keep.one {w w' : World} {D : Nat → Prop} {B C : Nat} {n : Ino} {ev : Value} (h : Keep w D B n ev) (hm : Mod (fun b => b = C) w w') (hB : B ≠ C) (hC : n.ents ≠ [] → ∀ g, ev.ownBlock = some g → g ≠ C) : Keep w' D B n ev :=
  ⟨h.ino.mod hm (fun e => hB e), h.ents.mod hm (fun h0 g hg e => hC h0 g hg e), h.nb, h.ne⟩

set_option maxRecDepth 20000 in
set_option maxHeartbeats 1500000 in
theorem law_turns {w : World} {n : Ino} {ev : Value} (hn : n.Ok) (he : HoldsE w ev n.ents) (x : Int) (hx : 0 ≤ x ∧ x < 256) :
    Calls Try.prog 14 #[.agg (inoA n ev), .int .u8 x] w fun e w' => e = .returned (.bool true) ∧ Below w.heap.size w w' := by
  have HNO := Lib.hid hn
  have HBEL : Hid (Below w.heap.size w (w.alloc (.cells (inoA n ev) 37))) := (Below.refl _ _).alloc (Nat.le_refl _) _
  have HA0 : Hid (InoB (w.alloc (.cells (inoA n ev) 37)) w.heap.size n ev) := InoB.new w hn.len ev
  have HE := Lib.hid (he.below HBEL.out)
  have HLE : Hid (n.ents ≠ [] → ∀ g, ev.ownBlock = some g → g < w.heap.size) := he.lt
  obtain ⟨ea, ec, rfl, -, -, -, -⟩ := he
  obtain ⟨b1, hb1⟩ : ∃ x, x = fewB n := ⟨_, rfl⟩
  have HFA : Hid (∀ wx, Mod nob (w.alloc (.cells (inoA n (.slice ea n.ents.length ec)) 37)) wx → Calls Try.prog 22 #[.agg (inoL n (.slice ea n.ents.length ec)).toArray] wx fun e w' => e = .returned (.bool b1) ∧ Below wx.heap.size wx w') := fun wx hm => by
    rw [hb1]
    exact few6 HNO.out (HE.out.mod hm (fun _ _ _ h => h))
  have HSA : Hid ((Try.prog.info? 37).map (·.size) = some (inoL n (.slice ea n.ents.length ec)).length) := by
    unfold Hid; rw [inoL_len hn.len]; exact Try.info18
  have HAW : Hid (∀ wx, Calls Try.prog 62 #[] wx fun e w' => e = .returned (.bool true) ∧ Below wx.heap.size wx w') := fun wx => awake8 wx
  have HTX : Hid (∀ wx, Calls Try.prog 70 #[.slice none 0 0] wx fun e w' => ∃ p, e = .returned (.pointer (some ⟨p, 0, none⟩)) ∧ SheetAt w' p (grow nob wx w') (Sh.new []) ∧ Below wx.heap.size wx w') := fun wx => tx_new (HoldsU.nil wx) (fun z hz => by cases hz)
  have hsz0 : (w.alloc (.cells (inoA n (.slice ea n.ents.length ec)) 37)).heap.size = w.heap.size + 1 := by simp
  have HZ := Lib.hid hsz0
  obtain ⟨x0, x1⟩ := hx
  clear hn hb1 hsz0
  go_enter Try.func14, Try.ntmps14
  go_wp2_with fail
  generalize w.alloc (.cells (inoA n (.slice ea n.ents.length ec)) 37) = w0 at *
  obtain ⟨n0, hn0⟩ : ∃ n0, n0 = w.heap.size := ⟨_, rfl⟩
  have HN0 := Lib.hid hn0
  rw [← hn0] at HA0 HZ HLE ⊢
  clear hn0
  have HX : Hid (Mod nob w0 w0) := Mod.refl nob w0
  refine (HAW.out _).mono ?_
  rintro e wz ⟨rfl, hbz⟩
  have HX := Lib.hid (HX.out.step (mod_of_below hbz) (fun _ h => h))
  clear hbz
  have HRA := Lib.hid ((HA0.out.mod HX.out (fun h => h)).at.range HNO.out.len)
  cases b1 with
  | false =>
    go_upto_if 26 with (first
      | ((refine wpList_unguard (o := ⟨some 24, _, _, _, _, _⟩) (by rfl) ?_; with_reducible refine wpList_load_mid (op := ⟨some 24, _, _, _, _, _⟩) rfl 37 _ rfl (n0) 0 rfl (inoL n (.slice ea n.ents.length ec)) _ HRA.out Try.underlying37 rfl HSA.out ?_))
      | (go_at_call 22; with_reducible refine (HFA.out _ HX.out).mono ?_; rintro e wz ⟨rfl, hbz⟩; have HX := Lib.hid (HX.out.step (mod_of_below hbz) (fun _ h => h)); clear hbz; have HRA := Lib.hid ((HA0.out.mod HX.out (fun h => h)).at.range HNO.out.len)))
    go_wp2_with fail
    refine (HAW.out _).mono ?_
    rintro e we ⟨rfl, hbz⟩
    have HX := Lib.hid (HX.out.step (mod_of_below hbz) (fun _ h => h))
    clear hbz
    go_wp2_with fail
    go_ret
    exact ⟨rfl, HBEL.out.trans (HX.out.below (by have := HZ.out; have := HN0.out; omega) (fun b h => h.elim))⟩
  | true =>
    go_upto_region 3 with (first
        | ((refine wpList_unguard (o := ⟨some 24, _, _, _, _, _⟩) (by rfl) ?_; with_reducible refine wpList_load_mid (op := ⟨some 24, _, _, _, _, _⟩) rfl 37 _ rfl (n0) 0 rfl (inoL n (.slice ea n.ents.length ec)) _ HRA.out Try.underlying37 rfl HSA.out ?_))
        | (go_at_call 22; with_reducible refine (HFA.out _ HX.out).mono ?_; rintro e wz ⟨rfl, hbz⟩; have HX := Lib.hid (HX.out.step (mod_of_below hbz) (fun _ h => h)); clear hbz; have HRA := Lib.hid ((HA0.out.mod HX.out (fun h => h)).at.range HNO.out.len)))
    go_upto_region 4 with (go_at_call 70; refine (HTX.out _).mono ?_; rintro e ws ⟨p, rfl, hs, hbz⟩)
    have HXS : Hid (Mod nob w0 ws) := HX.out.step (mod_of_below hbz) (fun _ h => h)
    have hz1 := HX.out.size
    obtain ⟨D, hD⟩ : ∃ D, D = grow nob wz ws := ⟨_, rfl⟩
    rw [← hD] at hs
    have HD : Hid (∀ b, D b → n0 + 1 ≤ b) := fun b hb => by
      rw [hD] at hb
      have := HZ.out
      rcases hb with hb | hb
      · exact hb.elim
      · omega
    have HS := Lib.hid hs
    have KA : Hid (Keep ws D n0 n (.slice ea n.ents.length ec)) := ⟨HA0.out.mod HXS.out (fun h => h), HE.out.mod HXS.out (fun _ _ _ h => h), fun h => by have := HD.out _ h; omega, fun h0 g hg h => by have h1 := HLE.out h0 g hg; have h2 := HD.out g h; omega⟩
    have HBS : Hid (Below w.heap.size w ws) := by
      have h1 := HN0.out
      have h2 := HZ.out
      exact HBEL.out.trans (HXS.out.below (by omega) (fun b h => h.elim))
    have HDW : Hid (∀ b, D b → w.heap.size ≤ b) := fun b hb => by have := HD.out b hb; have := HN0.out; omega
    obtain ⟨S0, hS0⟩ : ∃ S, S = Sh.new [] := ⟨_, rfl⟩
    rw [← hS0] at HS
    have HS00 := Lib.hid hS0
    have hwas0 : S0.was.length = 0 := by rw [hS0]; rfl
    have HW0 := Lib.hid hwas0
    clear hs hbz hz1 hD HA0 HE HLE HX HXS HRA HBEL HZ HTX HAW HFA HD hS0 hwas0
    go_wp2_with fail
    go_loopg [6] 13 (fun gk iv wr => ∃ k : Nat, k + gk = 13 ∧ iv = .int .i64 k ∧ Hid (ShStep ws p D wr (setTo S0 n.bl k)))
    case atStart => exact ⟨0, by omega, rfl, ShStep.start HS.out⟩
    case round =>
      obtain ⟨k, hk, rfl, HK⟩ := hrel
      by_cases hlt : k < 13
      · have hki : (k : Int) < 13 := by omega
        have hk0 : (0 : Int) ≤ (k : Int) := Int.natCast_nonneg _
        have KR := Lib.hid (KA.out.put HK.out.2)
        have hr := (KR.out.ino.at.blocks KR.out.ino.2) k (.int .i64 (n.bl.getD k 0)) (by
          rw [List.getElem?_map, List.getElem?_eq_getElem (by rw [HNO.out.len]; exact hlt), List.getD_eq_getElem?_getD, List.getElem?_eq_getElem (by rw [HNO.out.len]; exact hlt)]
          rfl)
        have hws := setTo_was S0 n.bl k
        have hst : setTo S0 n.bl (k + 1) = setI (setTo S0 n.bl k) (n.bl.getD k 0) true := rfl
        obtain ⟨b, hb⟩ : ∃ b, b = n.bl.getD k 0 := ⟨_, rfl⟩
        rw [← hb] at hr hst
        have HSC := Lib.hid (set_int HK.out.1 (by have := HW0.out; omega) b true)
        have HST := Lib.hid hst
        have d1 : wr.cell? ⟨n0, 4 + k, none⟩ = some (.int .i64 b) := by simpa using hr
        clear hb hst hws hr
        go_wp2_with fail
        refine HSC.out.mono ?_
        rintro e w2 ⟨rfl, hk2⟩
        have HN2 : Hid (ShStep ws p D w2 (setTo S0 n.bl (k + 1))) := by
          unfold Hid
          rw [HST.out]
          exact HK.out.step' hk2
        clear hk2
        go_wp2_with fail
        go_roundg (gk - 1)
        case measure => omega
        case rel => exact ⟨k + 1, by omega, by go_num, HN2⟩
      · have hge : ¬ (k : Int) < 13 := by omega
        obtain rfl : k = 13 := by omega
        obtain ⟨w1, hw1⟩ : ∃ w1 : World, w1 = wr := ⟨_, rfl⟩
        rw [← hw1] at HK ⊢
        clear hw1
        have KA := Lib.hid (KA.out.put HK.out.2)
        have HDW2 : Hid (∀ b, grow D ws w1 b → w.heap.size ≤ b) := fun b hb => by
          rcases hb with hb | hb
          · exact HDW.out b hb
          · have := HBS.out.size; omega
        have HBS : Hid (Below w.heap.size w w1) := HBS.out.trans (HK.out.2.below HBS.out.size (fun b hb => HDW.out b hb))
        have HDW := Lib.hid HDW2.out
        clear HDW2
        have HS := Lib.hid HK.out.1
        have hwas := setTo_was S0 n.bl 13
        have hfree := setTo_free S0 n.bl 13
        have hzero : ∀ j : Int, 820 ≤ j → (setTo S0 n.bl 13).get j = 0 := fun j hj => by rw [setTo_get S0 n.bl j hj 13, HS00.out]; exact new_nil_get j
        have hf0 : freeN S0 = 255 := by rw [HS00.out]; exact new_free
        have hw0 := HW0.out
        obtain ⟨S1, hS1⟩ : ∃ S, S = setTo S0 n.bl 13 := ⟨_, rfl⟩
        obtain ⟨D1, hD1⟩ : ∃ D', D' = grow D ws w1 := ⟨_, rfl⟩
        rw [← hS1] at HS hwas hfree hzero
        rw [← hD1] at HS KA HDW
        have hwas1 : S1.was.length ≤ 13 := by omega
        have hfree1 : 40 ≤ freeN S1 := by omega
        obtain ⟨k, hk⟩ : ∃ k : Nat, k = (x % 32).toNat := ⟨_, rfl⟩
        have hk1 : x % 32 = (k : Int) := by omega
        have hk2 : Int.tmod x 32 = (k : Int) := by rw [Int.tmod_eq_emod_of_nonneg x0]; exact hk1
        have hk32 : k < 32 := by omega
        have hk32i : (k : Int) < 32 := by omega
        have hk0 : (0 : Int) ≤ (k : Int) := Int.natCast_nonneg _
        have HKR : Hid (0 ≤ (k : Int) ∧ (k : Int) < 32) := ⟨hk0, hk32i⟩
        have HZR := Lib.hid (fun (j : Int) (g1 : 824 + (k : Int) * 8 ≤ j) (g2 : j < 832 + (k : Int) * 8) => hzero j (by omega))
        have HWAS1 := Lib.hid hwas1
        have HSS : Hid S1.Ok := HS.out.ok
        have HFREE1 := Lib.hid hfree1
        clear HK hwas hfree hzero hf0 hw0 hS1 hD1 hwas1 hfree1 hk HW0 HS00
        have HPC := Lib.hid (put_ino HS.out (by have := HWAS1.out; omega) (k : Int) HNO.out KA.out.ents KA.out.ne)
        obtain ⟨e1, he1⟩ : ∃ e, e = (putI S1 (k : Int) n).1 := ⟨_, rfl⟩
        obtain ⟨T1, hT1⟩ : ∃ T, T = (putI S1 (k : Int) n).2 := ⟨_, rfl⟩
        rw [← he1, ← hT1] at HPC
        have HE1 := Lib.hid he1
        have HT1 := Lib.hid hT1
        have HRA := Lib.hid KA.out.range
        clear he1 hT1
        go_upto_if 47 with (first
          | (with_reducible refine wpList_load_mid (op := ⟨some 45, _, _, _, _, _⟩) rfl 37 _ rfl (n0) 0 rfl (inoL n (.slice ea n.ents.length ec)) _ HRA.out Try.underlying37 rfl HSA.out ?_)
          | (go_at_call 65; refine HPC.out.mono ?_; rintro e w2 ⟨rfl, hk2'⟩))
        have HOK1 : Hid T1.Ok := hk2'.1.ok
        have HS := Lib.hid hk2'.1
        have KA := Lib.hid (KA.out.put hk2'.2)
        have HDW2 : Hid (∀ b, grow D1 w1 w2 b → w.heap.size ≤ b) := fun b hb => by
          rcases hb with hb | hb
          · exact HDW.out b hb
          · have := HBS.out.size; have := hk2'.2.size; omega
        have HBS : Hid (Below w.heap.size w w2) := HBS.out.trans (hk2'.2.below HBS.out.size (fun b hb => HDW.out b hb))
        have HDW := Lib.hid HDW2.out
        clear HDW2
        obtain ⟨D2, hD2⟩ : ∃ D', D' = grow D1 w1 w2 := ⟨_, rfl⟩
        rw [← hD2] at HS KA HDW
        clear hk2' hD2 HPC HRA
        by_cases hr : RightP n
        case neg =>
          have h1 : e1 = 1 := by rw [HE1.out]; unfold putI; rw [if_neg (by have := HKR.out; omega), if_pos hr]
          subst h1
          have HRR : Hid (∀ wx, Mod nob w2 wx → Calls Try.prog 29 #[.agg (inoL n (.slice ea n.ents.length ec)).toArray] wx fun e w' => e = .returned (.bool false) ∧ Below wx.heap.size wx w') := fun wx hm => by
            have := ref_right HNO.out (KA.out.ents.mod hm (fun _ _ _ h => h))
            rw [rightB_false hr] at this
            exact this
          have HRA := Lib.hid KA.out.range
          clear hr
          go_wp2_with (first
            | (with_reducible refine wpList_load_mid (op := ⟨some 48, _, _, _, _, _⟩) rfl 37 _ rfl (n0) 0 rfl (inoL n (.slice ea n.ents.length ec)) _ HRA.out Try.underlying37 rfl HSA.out ?_)
            | (go_at_call 29; with_reducible refine (HRR.out _ (Mod.refl nob w2)).mono ?_; rintro e wz ⟨rfl, hbz⟩))
          go_ret
          exact ⟨rfl, HBS.out.trans ((mod_of_below hbz).below HBS.out.size (fun b h => h.elim))⟩
        case pos =>
          obtain ⟨U1, T2, T3, xs1, xs2, xs3, hTU⟩ := turns_law (S := S1) (HSS.out) HKR.out HNO.out hr HZR.out HFREE1.out (fun T hT => by rw [hT, ← HT1.out]; exact HOK1.out)
          have hU1 : U1 = T1 := by rw [HT1.out, hTU.e1]
          subst hU1
          have h1 : e1 = 0 := by rw [HE1.out, hTU.e1]
          subst h1
          have HTU := Lib.hid hTU
          have HRP := Lib.hid hr
          have hfm := hr.1
          have HW1 := Lib.hid hTU.w1
          have HW2 := Lib.hid hTU.w2
          have HIN1 := Lib.hid hTU.i1
          have HIN2 := Lib.hid hTU.i2
          have HIN3 := Lib.hid hTU.i3
          have HP2 := Lib.hid hTU.e2
          have HP3 := Lib.hid hTU.e3
          have HFRE := Lib.hid hTU.fr
          obtain ⟨n2, hn2⟩ : ∃ m, m = turnN n := ⟨_, rfl⟩
          have HN2O : Hid n2.Ok := by unfold Hid; rw [hn2]; exact turnN_ok HNO.out hr
          have HN2R : Hid (RightP n2) := by unfold Hid; rw [hn2]; exact turnN_right hr
          have HN2E : Hid (n2.ents = n.ents) := by unfold Hid; rw [hn2]; rfl
          have HN2D : Hid (n2 = { n with format := 3 - n.format }) := hn2
          rw [← hn2] at HIN2 HP2
          obtain ⟨F, hF⟩ : ∃ F, F = freeN U1 := ⟨_, rfl⟩
          rw [← hF] at HFRE
          have HFC := Lib.hid (free_any HS.out)
          rw [← hF] at HFC
          have hf12 : 1 ≤ n.format ∧ n.format ≤ 2 := by omega
          have HF12 := Lib.hid hf12
          clear hr hTU hfm hn2 hF hf12
          go_upto_region 12 with (go_at_call 69; refine HFC.out.mono ?_; rintro e w' ⟨rfl, rfl⟩)
          have HGT := Lib.hid (get_ino HS.out (k : Int))
          rw [HIN1.out.get, HIN1.out.err] at HGT
          go_wp2_with fail
          refine HGT.out.mono ?_
          rintro e w7 ⟨hb7, mv, xv, rfl, hmv, hxv, hge, -⟩
          have HB7 := Lib.hid hb7
          have HMV := Lib.hid hmv
          have HGE := Lib.hid hge
          obtain ⟨ma, mc, rfl, -, -, -, -⟩ := hmv

          clear hxv

          clear hb7 hge HGT
          have hszA : (inoL n (.slice ma n.ents.length mc)).toArray.size = 18 := by simp [inoL_len HNO.out.len]
          have HTH : Hid ((w7.alloc (.cells z18 37)).there w7.heap.size 0 (inoL n (.slice ma n.ents.length mc)).toArray.size) := by
            unfold Hid; rw [hszA]; exact ino_there w7 _
          have HISZ : Hid ((Try.prog.info? 37).map (·.size) = some (inoL n (.slice ma n.ents.length mc)).toArray.size) := by
            unfold Hid; rw [hszA]; exact Try.info18
          have HSB : Hid ((Try.prog.info? 37).map (·.size) = some (inoL n (.slice ma n.ents.length mc)).length) := by
            unfold Hid; rw [inoL_len HNO.out.len]; exact Try.info18
          have HONE : Hid ((inoL n (.slice ma n.ents.length mc)).toArray.all (·.oneCell') = true) := all_oneCell_toArray (inoL_one rfl)
          have HROW := Lib.hid (ino_row w7 37 (inoL n (.slice ma n.ents.length mc)) (inoL_len HNO.out.len _))
          clear hszA
          go_upto_region 13 with (with_reducible refine wpList_store_mid (op := ⟨none, _, _, _, _, _⟩) rfl 37 _ _ rfl w7.heap.size 0 (inoL n (.slice ma n.ents.length mc)).toArray rfl rfl HTH.out HISZ.out HONE.out ?_)
          have HIX : Hid (InoB ((w7.alloc (.cells z18 37)).setCells w7.heap.size 0 (inoL n (.slice ma n.ents.length mc))) w7.heap.size n (.slice ma n.ents.length mc)) := ⟨HROW.out.1, HNO.out.len⟩
          have HMX : Hid (Mod nob w7 ((w7.alloc (.cells z18 37)).setCells w7.heap.size 0 (inoL n (.slice ma n.ents.length mc)))) := mod_of_below HROW.out.2
          clear HROW HTH HISZ HONE
          generalize (w7.alloc (.cells z18 37)).setCells w7.heap.size 0 (inoL n (.slice ma n.ents.length mc)) = w3 at *
          have HMZ : Hid (Mod nob w2 w3) := (mod_of_below HB7.out).step HMX.out (fun _ h => h)
          have KB : Hid (Keep w3 D2 w7.heap.size n (.slice ma n.ents.length mc)) := ⟨HIX.out, HMV.out.mod HMX.out (fun _ _ _ h => h), fun h => by have h1 := HS.out.lt _ h; have h2 := HB7.out.size; omega, fun h0 g hg h => by have h1 := HS.out.lt _ h; have h2 := HGE.out g hg; omega⟩
          have HNEB : Hid (∀ A : Nat, A < w2.heap.size → A ≠ w7.heap.size) := fun A hA => by have := HB7.out.size; omega
          obtain ⟨XB, hX⟩ : ∃ X, X = w7.heap.size := ⟨_, rfl⟩
          rw [← hX] at KB HNEB ⊢
          have HS := Lib.hid (HS.out.mod HMZ.out (fun _ _ h => h))
          have HBS : Hid (Below w.heap.size w w3) := HBS.out.trans (HMZ.out.below HBS.out.size (fun b h => h.elim))
          have KA := Lib.hid (KA.out.still HMZ.out)
          clear hX HIX HMX HB7 HMV HGE HMZ
          have hszA : (inoL n (.slice ea n.ents.length ec)).toArray.size = 18 := by simp [inoL_len HNO.out.len]
          have HTH : Hid ((w3.alloc (.cells z18 37)).there w3.heap.size 0 (inoL n (.slice ea n.ents.length ec)).toArray.size) := by
            unfold Hid; rw [hszA]; exact ino_there w3 _
          have HISZ : Hid ((Try.prog.info? 37).map (·.size) = some (inoL n (.slice ea n.ents.length ec)).toArray.size) := by
            unfold Hid; rw [hszA]; exact Try.info18
          have HONE : Hid ((inoL n (.slice ea n.ents.length ec)).toArray.all (·.oneCell') = true) := all_oneCell_toArray (inoL_one rfl)
          have HROW := Lib.hid (ino_row w3 37 (inoL n (.slice ea n.ents.length ec)) (inoL_len HNO.out.len _))
          have HRA := Lib.hid KA.out.range
          clear hszA
          go_upto_region 14 with (first
            | (with_reducible refine wpList_load_mid (op := ⟨some 60, _, _, _, _, _⟩) rfl 37 _ rfl (n0) 0 rfl (inoL n (.slice ea n.ents.length ec)) _ HRA.out Try.underlying37 rfl HSA.out ?_)
            | (with_reducible refine wpList_store_mid (op := ⟨none, _, _, _, _, _⟩) rfl 37 _ _ rfl w3.heap.size 0 (inoL n (.slice ea n.ents.length ec)).toArray rfl rfl HTH.out HISZ.out HONE.out ?_))
          have HIX : Hid (InoB ((w3.alloc (.cells z18 37)).setCells w3.heap.size 0 (inoL n (.slice ea n.ents.length ec))) w3.heap.size n (.slice ea n.ents.length ec)) := ⟨HROW.out.1, HNO.out.len⟩
          have HMX : Hid (Mod nob w3 ((w3.alloc (.cells z18 37)).setCells w3.heap.size 0 (inoL n (.slice ea n.ents.length ec)))) := mod_of_below HROW.out.2
          clear HROW HTH HISZ HONE HRA
          generalize (w3.alloc (.cells z18 37)).setCells w3.heap.size 0 (inoL n (.slice ea n.ents.length ec)) = w4 at *
          have HAX : Hid (n0 ≠ w3.heap.size) := by have := KA.out.ino.lt; unfold Hid; omega
          have HBX : Hid (XB ≠ w3.heap.size) := by have := KB.out.ino.lt; unfold Hid; omega
          have HEX : Hid (n.ents ≠ [] → ∀ g, (Value.slice ea n.ents.length ec).ownBlock = some g → g ≠ w3.heap.size) := fun h0 g hg => by have := KA.out.ents.lt h0 g hg; omega
          have HMX2 : Hid (n.ents ≠ [] → ∀ g, (Value.slice ma n.ents.length mc).ownBlock = some g → g ≠ w3.heap.size) := fun h0 g hg => by have := KB.out.ents.lt h0 g hg; omega
          have HCD : Hid (¬ D2 w3.heap.size) := fun h => by have := HS.out.lt _ h; omega
          have HCB : Hid (w.heap.size ≤ w3.heap.size) := HBS.out.size
          have HS := Lib.hid (HS.out.mod HMX.out (fun _ _ h => h))
          have HBS : Hid (Below w.heap.size w w4) := HBS.out.trans (HMX.out.below HBS.out.size (fun b h => h.elim))
          have KA := Lib.hid (KA.out.still HMX.out)
          have KB := Lib.hid (KB.out.still HMX.out)
          obtain ⟨XC, hX⟩ : ∃ X, X = w3.heap.size := ⟨_, rfl⟩
          rw [← hX] at HIX HAX HBX HEX HMX2 HCD HCB ⊢
          clear hX HMX
          have c0 := KA.out.ino.at.c0
          have c1 := HIX.out.at.c0
          have f1 := HIX.out.frozen 0
          have hfmt : IntKind.i64.wrap (3 - n.format) = 3 - n.format := by have := HF12.out; rw [IntKind.wrap_i64]; omega
          have KC : Hid (Keep (w4.setCell ⟨XC, 0, none⟩ (.int .i64 (3 - n.format))) D2 XC n2 (.slice ea n2.ents.length ec)) := by
            have h1 := HIX.out.setFmt (3 - n.format)
            have hm : Mod (fun b => b = XC) w4 (w4.setCell ⟨XC, 0, none⟩ (.int .i64 (3 - n.format))) := (Mod.refl (fun b => b = XC) w4).setCell (a := ⟨XC, 0, none⟩) (.inl rfl) _
            refine ⟨?_, ?_, HCD.out, ?_⟩
            · rw [HN2E.out, HN2D.out]; exact h1
            · rw [HN2E.out]; exact KA.out.ents.mod hm (fun h0 g hg e => HEX.out h0 g hg e)
            · rw [HN2E.out]; exact KA.out.ne
          have HM5 : Hid (Mod (fun b => b = XC) w4 (w4.setCell ⟨XC, 0, none⟩ (.int .i64 (3 - n.format)))) := (Mod.refl (fun b => b = XC) w4).setCell (a := ⟨XC, 0, none⟩) (.inl rfl) _
          have KA' := Lib.hid (KA.out.one HM5.out HAX.out HEX.out)
          have KB' := Lib.hid (KB.out.one HM5.out HBX.out HMX2.out)
          have HS' : Hid (SheetAt (w4.setCell ⟨XC, 0, none⟩ (.int .i64 (3 - n.format))) p D2 U1) := HS.out.mod HM5.out (fun b hb e => by rw [e] at hb; exact HCD.out hb)
          have HBS' : Hid (Below w.heap.size w (w4.setCell ⟨XC, 0, none⟩ (.int .i64 (3 - n.format)))) := HBS.out.trans (HM5.out.below HBS.out.size (fun b hb => by rw [hb]; exact HCB.out))
          obtain ⟨fo, hfo⟩ : ∃ f, f = n.format := ⟨_, rfl⟩
          have HF12' := HF12.out
          rw [← hfo] at c0 c1 hfmt HF12' KC KA' KB' HS' HBS' HM5
          obtain ⟨f1', f2'⟩ := HF12'
          clear hfo KA KB HS HBS HIX
          go_upto_region 15 with (fail)
          generalize w4.setCell ⟨XC, 0, none⟩ (.int .i64 (3 - fo)) = w5 at *
          have KA := Lib.hid KA'.out
          have KB := Lib.hid KB'.out
          have HS := Lib.hid HS'.out
          have HBS := Lib.hid HBS'.out
          have HSC : Hid ((Try.prog.info? 37).map (·.size) = some (inoL n2 (.slice ea n2.ents.length ec)).length) := by
            unfold Hid; rw [inoL_len HN2O.out.len]; exact Try.info18
          clear KA' KB' HS' HBS' HM5 c0 c1 f1 hfmt f1' f2' HAX HBX HEX HMX2 HCD HCB
          have HPC := Lib.hid (put_ino HS.out (by have := HW1.out; have := HWAS1.out; omega) (k : Int) HN2O.out KC.out.ents KC.out.ne)
          rw [HP2.out] at HPC
          have HRA := Lib.hid KC.out.range
          go_upto_region 16 with (first
            | (with_reducible refine wpList_load_mid (op := ⟨some 67, _, _, _, _, _⟩) rfl 37 _ rfl (XC) 0 rfl (inoL n2 (.slice ea n2.ents.length ec)) _ HRA.out Try.underlying37 rfl HSC.out ?_)
            | (go_at_call 65; refine HPC.out.mono ?_; rintro e w6 ⟨rfl, hkp⟩))
          have HS := Lib.hid hkp.1
          have KA := Lib.hid (KA.out.put hkp.2)
          have KB := Lib.hid (KB.out.put hkp.2)
          have KC := Lib.hid (KC.out.put hkp.2)
          have HDW2 : Hid (∀ b, grow D2 w5 w6 b → w.heap.size ≤ b) := fun b hb => by
            rcases hb with hb | hb
            · exact HDW.out b hb
            · have := HBS.out.size; have := hkp.2.size; omega
          have HBS : Hid (Below w.heap.size w w6) := HBS.out.trans (hkp.2.below HBS.out.size (fun b hb => HDW.out b hb))
          have HDW := Lib.hid HDW2.out
          clear HDW2
          obtain ⟨D3, hDn⟩ : ∃ D', D' = grow D2 w5 w6 := ⟨_, rfl⟩
          rw [← hDn] at HS HDW KA KB KC
          clear hkp hDn HPC HRA
          have HGT := Lib.hid (get_ino HS.out (k : Int))
          rw [HIN2.out.get, HIN2.out.err] at HGT
          go_wp2_with fail
          refine HGT.out.mono ?_
          rintro e w7 ⟨hb7, mv, xv, rfl, hmv, hxv, hge, -⟩
          have HB7 := Lib.hid hb7
          have HMV := Lib.hid hmv
          have HGE := Lib.hid hge
          obtain ⟨qa, qc, rfl, -, -, -, -⟩ := hmv

          obtain ⟨ya, yc, rfl, y1, y2, -, -⟩ := hxv
          unfold maxLen at y2

          clear hb7 hge HGT
          have hszA : (inoL n2 (.slice qa n2.ents.length qc)).toArray.size = 18 := by simp [inoL_len HN2O.out.len]
          have HTH : Hid ((w7.alloc (.cells z18 37)).there w7.heap.size 0 (inoL n2 (.slice qa n2.ents.length qc)).toArray.size) := by
            unfold Hid; rw [hszA]; exact ino_there w7 _
          have HISZ : Hid ((Try.prog.info? 37).map (·.size) = some (inoL n2 (.slice qa n2.ents.length qc)).toArray.size) := by
            unfold Hid; rw [hszA]; exact Try.info18
          have HSD : Hid ((Try.prog.info? 37).map (·.size) = some (inoL n2 (.slice qa n2.ents.length qc)).length) := by
            unfold Hid; rw [inoL_len HN2O.out.len]; exact Try.info18
          have HONE : Hid ((inoL n2 (.slice qa n2.ents.length qc)).toArray.all (·.oneCell') = true) := all_oneCell_toArray (inoL_one rfl)
          have HROW := Lib.hid (ino_row w7 37 (inoL n2 (.slice qa n2.ents.length qc)) (inoL_len HN2O.out.len _))
          clear hszA
          go_upto_region 17 with (with_reducible refine wpList_store_mid (op := ⟨none, _, _, _, _, _⟩) rfl 37 _ _ rfl w7.heap.size 0 (inoL n2 (.slice qa n2.ents.length qc)).toArray rfl rfl HTH.out HISZ.out HONE.out ?_)
          have HIX : Hid (InoB ((w7.alloc (.cells z18 37)).setCells w7.heap.size 0 (inoL n2 (.slice qa n2.ents.length qc))) w7.heap.size n2 (.slice qa n2.ents.length qc)) := ⟨HROW.out.1, HN2O.out.len⟩
          have HMX : Hid (Mod nob w7 ((w7.alloc (.cells z18 37)).setCells w7.heap.size 0 (inoL n2 (.slice qa n2.ents.length qc)))) := mod_of_below HROW.out.2
          clear HROW HTH HISZ HONE
          generalize (w7.alloc (.cells z18 37)).setCells w7.heap.size 0 (inoL n2 (.slice qa n2.ents.length qc)) = w8 at *
          have HMZ : Hid (Mod nob w6 w8) := (mod_of_below HB7.out).step HMX.out (fun _ h => h)
          have KD : Hid (Keep w8 D3 w7.heap.size n2 (.slice qa n2.ents.length qc)) := ⟨HIX.out, HMV.out.mod HMX.out (fun _ _ _ h => h), fun h => by have h1 := HS.out.lt _ h; have h2 := HB7.out.size; omega, fun h0 g hg h => by have h1 := HS.out.lt _ h; have h2 := HGE.out g hg; omega⟩
          have HNED : Hid (∀ A : Nat, A < w6.heap.size → A ≠ w7.heap.size) := fun A hA => by have := HB7.out.size; omega
          obtain ⟨XD, hX⟩ : ∃ X, X = w7.heap.size := ⟨_, rfl⟩
          rw [← hX] at KD HNED ⊢
          have HS := Lib.hid (HS.out.mod HMZ.out (fun _ _ h => h))
          have HBS : Hid (Below w.heap.size w w8) := HBS.out.trans (HMZ.out.below HBS.out.size (fun b h => h.elim))
          have KA := Lib.hid (KA.out.still HMZ.out)
          have KB := Lib.hid (KB.out.still HMZ.out)
          have KC := Lib.hid (KC.out.still HMZ.out)
          clear hX HIX HMX HB7 HMV HGE HMZ
          have HPC := Lib.hid (put_ino HS.out (by have := HW2.out; have := HWAS1.out; omega) (k : Int) HNO.out KA.out.ents KA.out.ne)
          rw [HP3.out] at HPC
          have HRA := Lib.hid KA.out.range
          go_upto_region 18 with (first
            | (with_reducible refine wpList_load_mid (op := ⟨some 78, _, _, _, _, _⟩) rfl 37 _ rfl (n0) 0 rfl (inoL n (.slice ea n.ents.length ec)) _ HRA.out Try.underlying37 rfl HSA.out ?_)
            | (go_at_call 65; refine HPC.out.mono ?_; rintro e w9 ⟨rfl, hkp⟩))
          have HS := Lib.hid hkp.1
          have KA := Lib.hid (KA.out.put hkp.2)
          have KB := Lib.hid (KB.out.put hkp.2)
          have KC := Lib.hid (KC.out.put hkp.2)
          have KD := Lib.hid (KD.out.put hkp.2)
          have HDW2 : Hid (∀ b, grow D3 w8 w9 b → w.heap.size ≤ b) := fun b hb => by
            rcases hb with hb | hb
            · exact HDW.out b hb
            · have := HBS.out.size; have := hkp.2.size; omega
          have HBS : Hid (Below w.heap.size w w9) := HBS.out.trans (hkp.2.below HBS.out.size (fun b hb => HDW.out b hb))
          have HDW := Lib.hid HDW2.out
          clear HDW2
          obtain ⟨D4, hDn⟩ : ∃ D', D' = grow D3 w8 w9 := ⟨_, rfl⟩
          rw [← hDn] at HS HDW KA KB KC KD
          clear hkp hDn HPC HRA
          have HGT := Lib.hid (get_ino HS.out (k : Int))
          rw [HIN3.out.get, HIN3.out.err] at HGT
          go_wp2_with fail
          refine HGT.out.mono ?_
          rintro e w7 ⟨hb7, mv, xv, rfl, hmv, hxv, hge, -⟩
          have HB7 := Lib.hid hb7
          have HMV := Lib.hid hmv
          have HGE := Lib.hid hge
          obtain ⟨ra, rc, rfl, -, -, -, -⟩ := hmv

          clear hxv

          clear hb7 hge HGT
          have hszA : (inoL n (.slice ra n.ents.length rc)).toArray.size = 18 := by simp [inoL_len HNO.out.len]
          have HTH : Hid ((w7.alloc (.cells z18 37)).there w7.heap.size 0 (inoL n (.slice ra n.ents.length rc)).toArray.size) := by
            unfold Hid; rw [hszA]; exact ino_there w7 _
          have HISZ : Hid ((Try.prog.info? 37).map (·.size) = some (inoL n (.slice ra n.ents.length rc)).toArray.size) := by
            unfold Hid; rw [hszA]; exact Try.info18
          have HSE : Hid ((Try.prog.info? 37).map (·.size) = some (inoL n (.slice ra n.ents.length rc)).length) := by
            unfold Hid; rw [inoL_len HNO.out.len]; exact Try.info18
          have HONE : Hid ((inoL n (.slice ra n.ents.length rc)).toArray.all (·.oneCell') = true) := all_oneCell_toArray (inoL_one rfl)
          have HROW := Lib.hid (ino_row w7 37 (inoL n (.slice ra n.ents.length rc)) (inoL_len HNO.out.len _))
          clear hszA
          go_upto_region 19 with (with_reducible refine wpList_store_mid (op := ⟨none, _, _, _, _, _⟩) rfl 37 _ _ rfl w7.heap.size 0 (inoL n (.slice ra n.ents.length rc)).toArray rfl rfl HTH.out HISZ.out HONE.out ?_)
          have HIX : Hid (InoB ((w7.alloc (.cells z18 37)).setCells w7.heap.size 0 (inoL n (.slice ra n.ents.length rc))) w7.heap.size n (.slice ra n.ents.length rc)) := ⟨HROW.out.1, HNO.out.len⟩
          have HMX : Hid (Mod nob w7 ((w7.alloc (.cells z18 37)).setCells w7.heap.size 0 (inoL n (.slice ra n.ents.length rc)))) := mod_of_below HROW.out.2
          clear HROW HTH HISZ HONE
          generalize (w7.alloc (.cells z18 37)).setCells w7.heap.size 0 (inoL n (.slice ra n.ents.length rc)) = wF at *
          have HMZ : Hid (Mod nob w9 wF) := (mod_of_below HB7.out).step HMX.out (fun _ h => h)
          have KE : Hid (Keep wF D4 w7.heap.size n (.slice ra n.ents.length rc)) := ⟨HIX.out, HMV.out.mod HMX.out (fun _ _ _ h => h), fun h => by have h1 := HS.out.lt _ h; have h2 := HB7.out.size; omega, fun h0 g hg h => by have h1 := HS.out.lt _ h; have h2 := HGE.out g hg; omega⟩
          have HNEE : Hid (∀ A : Nat, A < w9.heap.size → A ≠ w7.heap.size) := fun A hA => by have := HB7.out.size; omega
          obtain ⟨XE, hX⟩ : ∃ X, X = w7.heap.size := ⟨_, rfl⟩
          rw [← hX] at KE HNEE ⊢
          have HS := Lib.hid (HS.out.mod HMZ.out (fun _ _ h => h))
          have HBS : Hid (Below w.heap.size w wF) := HBS.out.trans (HMZ.out.below HBS.out.size (fun b h => h.elim))
          have KA := Lib.hid (KA.out.still HMZ.out)
          have KB := Lib.hid (KB.out.still HMZ.out)
          have KC := Lib.hid (KC.out.still HMZ.out)
          have KD := Lib.hid (KD.out.still HMZ.out)
          clear hX HIX HMX HB7 HMV HGE HMZ
          have HX : Hid (Mod nob wF wF) := Mod.refl nob wF
          have HSM1 : Hid (∀ wx, Mod nob wF wx → Calls Try.prog 26 #[.agg (inoL n (.slice ma n.ents.length mc)).toArray, .agg (inoL n (.slice ea n.ents.length ec)).toArray] wx fun e w' => e = .returned (.bool true) ∧ Below wx.heap.size wx w') := fun wx hm => same6 HNO.out (KB.out.ents.mod hm (fun _ _ _ h => h)) (KA.out.ents.mod hm (fun _ _ _ h => h))
          have HSM2 : Hid (∀ wx, Mod nob wF wx → Calls Try.prog 26 #[.agg (inoL n2 (.slice qa n2.ents.length qc)).toArray, .agg (inoL n2 (.slice ea n2.ents.length ec)).toArray] wx fun e w' => e = .returned (.bool true) ∧ Below wx.heap.size wx w') := fun wx hm => same6 HN2O.out (KD.out.ents.mod hm (fun _ _ _ h => h)) (KC.out.ents.mod hm (fun _ _ _ h => h))
          have HSM3 : Hid (∀ wx, Mod nob wF wx → Calls Try.prog 26 #[.agg (inoL n (.slice ra n.ents.length rc)).toArray, .agg (inoL n (.slice ea n.ents.length ec)).toArray] wx fun e w' => e = .returned (.bool true) ∧ Below wx.heap.size wx w') := fun wx hm => same6 HNO.out (KE.out.ents.mod hm (fun _ _ _ h => h)) (KA.out.ents.mod hm (fun _ _ _ h => h))
          obtain ⟨M, hM⟩ : ∃ M, M = xs2.length := ⟨_, rfl⟩
          have HNC : Hid (∀ wx, Mod nob wF wx → Calls Try.prog 66 #[.agg (inoL n2 (.slice ea n2.ents.length ec)).toArray] wx fun e w' => e = .returned (.int .i64 (M : Nat)) ∧ Below wx.heap.size wx w') := fun wx hm => by
            rw [hM, HIN2.out.len]
            exact ref_need8 HN2O.out (KC.out.ents.mod hm (fun _ _ _ h => h)) HN2R.out
          have HFC : Hid (∀ wx, Mod nob wF wx → Calls Try.prog 69 #[.pointer (some ⟨p, 0, none⟩)] wx fun e w' => e = .returned (.int .i64 (F : Nat)) ∧ wx = w') := fun wx hm => by
            have := free_any (HS.out.mod hm (fun _ _ h => h))
            rw [HFRE.out] at this
            exact this
          rw [← hM] at y1 ⊢
          have HRA := Lib.hid KA.out.range
          have HRB := Lib.hid KB.out.range
          have HRC := Lib.hid KC.out.range
          have HRD := Lib.hid KD.out.range
          have HRE := Lib.hid KE.out.range
          clear hM
          go_wp2_with (first
            | ((refine wpList_unguard (o := ⟨some 106, _, _, _, _, _⟩) (by rfl) ?_; with_reducible refine wpList_load_mid (op := ⟨some 106, _, _, _, _, _⟩) rfl 37 _ rfl (XB) 0 rfl (inoL n (.slice ma n.ents.length mc)) _ HRB.out Try.underlying37 rfl HSB.out ?_))
            | ((refine wpList_unguard (o := ⟨some 107, _, _, _, _, _⟩) (by rfl) ?_; with_reducible refine wpList_load_mid (op := ⟨some 107, _, _, _, _, _⟩) rfl 37 _ rfl (n0) 0 rfl (inoL n (.slice ea n.ents.length ec)) _ HRA.out Try.underlying37 rfl HSA.out ?_))
            | ((refine wpList_unguard (o := ⟨some 111, _, _, _, _, _⟩) (by rfl) ?_; with_reducible refine wpList_load_mid (op := ⟨some 111, _, _, _, _, _⟩) rfl 37 _ rfl (XD) 0 rfl (inoL n2 (.slice qa n2.ents.length qc)) _ HRD.out Try.underlying37 rfl HSD.out ?_))
            | ((refine wpList_unguard (o := ⟨some 112, _, _, _, _, _⟩) (by rfl) ?_; with_reducible refine wpList_load_mid (op := ⟨some 112, _, _, _, _, _⟩) rfl 37 _ rfl (XC) 0 rfl (inoL n2 (.slice ea n2.ents.length ec)) _ HRC.out Try.underlying37 rfl HSC.out ?_))
            | ((refine wpList_unguard (o := ⟨some 116, _, _, _, _, _⟩) (by rfl) ?_; with_reducible refine wpList_load_mid (op := ⟨some 116, _, _, _, _, _⟩) rfl 37 _ rfl (XE) 0 rfl (inoL n (.slice ra n.ents.length rc)) _ HRE.out Try.underlying37 rfl HSE.out ?_))
            | ((refine wpList_unguard (o := ⟨some 117, _, _, _, _, _⟩) (by rfl) ?_; with_reducible refine wpList_load_mid (op := ⟨some 117, _, _, _, _, _⟩) rfl 37 _ rfl (n0) 0 rfl (inoL n (.slice ea n.ents.length ec)) _ HRA.out Try.underlying37 rfl HSA.out ?_))
            | ((refine wpList_unguard (o := ⟨some 123, _, _, _, _, _⟩) (by rfl) ?_; with_reducible refine wpList_load_mid (op := ⟨some 123, _, _, _, _, _⟩) rfl 37 _ rfl (XC) 0 rfl (inoL n2 (.slice ea n2.ents.length ec)) _ HRC.out Try.underlying37 rfl HSC.out ?_))
            | (go_at_call 26; with_reducible refine (HSM1.out _ HX.out).mono ?_; rintro e wz ⟨rfl, hbz⟩; have HX := Lib.hid (HX.out.step (mod_of_below hbz) (fun _ h => h)); clear hbz; have HRA := Lib.hid (KA.out.still HX.out).range; have HRB := Lib.hid (KB.out.still HX.out).range; have HRC := Lib.hid (KC.out.still HX.out).range; have HRD := Lib.hid (KD.out.still HX.out).range; have HRE := Lib.hid (KE.out.still HX.out).range)
            | (go_at_call 26; with_reducible refine (HSM2.out _ HX.out).mono ?_; rintro e wz ⟨rfl, hbz⟩; have HX := Lib.hid (HX.out.step (mod_of_below hbz) (fun _ h => h)); clear hbz; have HRA := Lib.hid (KA.out.still HX.out).range; have HRB := Lib.hid (KB.out.still HX.out).range; have HRC := Lib.hid (KC.out.still HX.out).range; have HRD := Lib.hid (KD.out.still HX.out).range; have HRE := Lib.hid (KE.out.still HX.out).range)
            | (go_at_call 26; with_reducible refine (HSM3.out _ HX.out).mono ?_; rintro e wz ⟨rfl, hbz⟩; have HX := Lib.hid (HX.out.step (mod_of_below hbz) (fun _ h => h)); clear hbz; have HRA := Lib.hid (KA.out.still HX.out).range; have HRB := Lib.hid (KB.out.still HX.out).range; have HRC := Lib.hid (KC.out.still HX.out).range; have HRD := Lib.hid (KD.out.still HX.out).range; have HRE := Lib.hid (KE.out.still HX.out).range)
            | (go_at_call 66; with_reducible refine (HNC.out _ HX.out).mono ?_; rintro e wz ⟨rfl, hbz⟩; have HX := Lib.hid (HX.out.step (mod_of_below hbz) (fun _ h => h)); clear hbz; have HRA := Lib.hid (KA.out.still HX.out).range; have HRB := Lib.hid (KB.out.still HX.out).range; have HRC := Lib.hid (KC.out.still HX.out).range; have HRD := Lib.hid (KD.out.still HX.out).range; have HRE := Lib.hid (KE.out.still HX.out).range)
            | (go_at_call 69; with_reducible refine (HFC.out _ HX.out).mono ?_; rintro e wz ⟨rfl, rfl⟩))
          go_ret
          exact ⟨rfl, HBS.out.trans (HX.out.below HBS.out.size (fun b h => h.elim))⟩
end Go.Proofs.Ytfpnmphmngdkdaa
