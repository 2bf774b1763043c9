/-
  inode.Put: a contract. No condition but the sheet, and bounds.
  inode.New, imagolaw08.awake, imagolaw08.empty: contracts. No condition but the sheet, and bounds.
-/
import Derived.Test.YtlopdbhjdijlmaaQGet8
import Derived.Test.YtlopdbhjdijlmaaQInoM
import Derived.Test.YtlopdbhjdijlmaaQLayAny
import Derived.Test.YtlopdbhjdijlmaaQLayTwo
import Derived.Test.YtlopdbhjdijlmaaQTxM

namespace Go.Proofs.Ytlopdbhjdijlmaa
open Go.ChangeShapes Go.WideShapes Go.ChangeAt Go.RowKit
set_option linter.unusedSimpArgs false
set_option linter.unusedVariables false

set_option maxRecDepth 20000 in
set_option maxHeartbeats 8000000 in
theorem put_ino {w : World} {p : Nat} {D : Nat → Prop} {S : Sh} (h : SheetAt w p D S) (hlen : S.was.length + 10000 < 1099511627776) (i : Int) {n : Ino} {ev : Value} (hn : n.Ok) (he : HoldsE w ev n.ents) (hed : n.ents ≠ [] → ∀ g, ev.ownBlock = some g → ¬ D g) :
    Calls Try.prog 21 #[.pointer (some ⟨p, 0, none⟩), .int .i64 i, .agg (inoA n ev)] w fun e w' => e = .returned (.int .i64 (putI S i n).1) ∧ ShStep w p D w' (putI S i n).2 := by
  have hb := InoB.new w hn.len ev
  have HB := Lib.hid hb
  have HNO := Lib.hid hn
  have HSH := Lib.hid h
  have HE := Lib.hid he
  have HED := Lib.hid hed
  have HSL := Lib.hid hlen
  have hleni : (inoL n ev).length = 18 := inoL_len hn.len ev
  have HLEN := Lib.hid hleni
  have HRG := Lib.hid (hb.at.range hn.len)
  have HM0 : Hid (Mod nob w (w.alloc (.cells (inoA n ev) 25))) := (Mod.refl nob w).alloc _
  have hBs : w.heap.size < (w.alloc (.cells (inoA n ev) 25)).heap.size := by simp
  have HRI : Hid (Calls Try.prog 54 #[.agg (inoL n ev).toArray] (w.alloc (.cells (inoA n ev) 25)) fun e w' => e = .returned (.bool (rightB n)) ∧ Below (w.alloc (.cells (inoA n ev) 25)).heap.size (w.alloc (.cells (inoA n ev) 25)) w') := right_any hn (he.mod HM0.out (fun _ _ _ h => h))
  have HIN : Hid (∀ wx, Calls Try.prog 53 #[.int .i64 i] wx fun e w' => e = .returned (.int .i64 (inoAt i)) ∧ wx = w') := fun wx => inode_any i wx
  have hia : inoAt i = if i < 0 ∨ 32 ≤ i then -1 else 824 + i * 8 := rfl
  have HIA := Lib.hid hia
  clear hb hn he h hleni hia hed hlen
  by_cases hi : i < 0 ∨ 32 ≤ i
  · have hat : inoAt i = -1 := by rw [HIA.out, if_pos hi]
    have hp : putI S i n = (1, S) := by unfold putI; rw [if_pos hi]
    rw [hat] at HIN
    rw [hp]
    clear hat hi hp
    go_enter Try.func21, Try.ntmps21
    go_wp2_with fail
    refine (HIN.out _).mono ?_
    rintro e w1 ⟨rfl, rfl⟩
    go_wp2_with fail
    go_ret
    exact ⟨rfl, (ShStep.start HSH.out).still HM0.out⟩
  · have hat : inoAt i = 824 + i * 8 := by rw [HIA.out, if_neg hi]
    rw [hat] at HIN
    have hge : ¬ 824 + i * 8 < 0 := by omega
    have hd : decide (824 + i * 8 < 0) = false := by simpa using hge
    have HI := Lib.hid hi
    clear hat hi
    by_cases hr : RightP n
    case neg =>
      have hp : putI S i n = (1, S) := by unfold putI; rw [if_neg HI.out, if_pos hr]
      have hrb : rightB n = false := rightB_false hr
      rw [hp]
      rw [hrb] at HRI
      clear hp hr hrb
      go_enter Try.func21, Try.ntmps21
      go_wp2_with fail
      refine (HIN.out _).mono ?_
      rintro e w1 ⟨rfl, rfl⟩
      go_wp2_with (first
        | ((refine wpList_unguard (o := ⟨some 17, _, _, _, _, _⟩) (by rfl) ?_; with_reducible refine wpList_load_mid rfl 25 _ rfl w.heap.size 0 rfl (inoL n ev) _ HRG.out Try.underlying25 rfl (by rw [HLEN.out]; exact Try.info18) ?_))
        | (go_at_call 54; refine HRI.out.mono ?_; rintro e w2 ⟨rfl, hb2⟩; have HB2 := Lib.hid hb2; clear hb2))
      go_ret
      exact ⟨rfl, (ShStep.start HSH.out).still (HM0.out.step (mod_of_below HB2.out) (fun _ h => h))⟩
    case pos =>
      rw [rightB_true hr] at HRI
      have HR := Lib.hid hr
      have hi0 : 0 ≤ i ∧ i < 32 := by have := HI.out; omega
      have HPI : Hid (putI S i n = if getE S i = 10 then (10, S) else if needI n ≤ freeN (giveS S (ownI S i)) then (0, layI (giveS S (ownI S i)) i n) else (7, S)) := by unfold Hid putI; rw [if_neg HI.out, if_neg (fun h => h hr)]
      have HI0 := Lib.hid hi0
      clear hr hge hi0
      go_enter Try.func21, Try.ntmps21
      go_wp2_with fail
      refine (HIN.out _).mono ?_
      rintro e w1 ⟨rfl, rfl⟩
      go_upto_region 3 with (first
        | ((refine wpList_unguard (o := ⟨some 17, _, _, _, _, _⟩) (by rfl) ?_; with_reducible refine wpList_load_mid rfl 25 _ rfl w.heap.size 0 rfl (inoL n ev) _ HRG.out Try.underlying25 rfl (by rw [HLEN.out]; exact Try.info18) ?_))
        | (go_at_call 54; refine HRI.out.mono ?_; rintro e w2 ⟨rfl, hb2⟩))
      have HM2 : Hid (Mod nob w w2) := HM0.out.step (mod_of_below hb2) (fun _ h => h)
      have HB2 : Hid (InoB w2 w.heap.size n ev) := HB.out.mod (mod_of_below hb2) (fun h => h)
      have HS2 : Hid (SheetAt w2 p D S) := HSH.out.mod HM2.out (fun _ _ h => h)
      have HMK := Lib.hid (sheet_mark HS2.out)
      have HGT := Lib.hid (get_ino HS2.out i)
      have hX2 : w.heap.size < w2.heap.size := Nat.lt_of_lt_of_le hBs hb2.size
      have HX2 := Lib.hid hX2
      clear hb2 HRI HRG HIN HM0 HB hBs hX2 hd
      go_upto_region 4 with (go_at_call 32; refine HMK.out.mono ?_; rintro e w' ⟨rfl, rfl⟩)
      obtain ⟨X, hX⟩ : ∃ X, X = w.heap.size := ⟨_, rfl⟩
      rw [← hX] at HB2 HX2 ⊢
      have HXX := Lib.hid hX
      clear hX HMK
      go_cut [9, 10] (fun v9 v10 wc => v10 = .int .i64 (getE S i) ∧ Hid (HoldsN wc v9 (ownI S i)) ∧ Hid (ownI S i ≠ [] → ∀ g, v9.ownBlock = some g → w2.heap.size ≤ g) ∧ Hid (Mod nob w2 wc))
      case first =>
        have HOI : Hid (∀ r, getR S i = some r → ownI S i = r.2) := fun r h => by unfold ownI; rw [h]
        have HON : Hid (getR S i = none → ownI S i = []) := fun h => by unfold ownI; rw [h]
        have HOK := Lib.hid HSH.out.ok
        have HLL : Hid (∀ m xs, getR S i = some (m, xs) → m.bl.length = 13) := fun m xs hr => by
          unfold getR at hr
          rw [if_neg HI.out] at hr
          split at hr
          · cases hr
          · unfold rdI at hr
            split at hr
            · exact (rd2_some HOK.out hr).2.1.len
            · exact (rd1_some HOK.out hr).2.1.len
        generalize getE S i = e0 at *
        cases hgr : getR S i with
        | none =>
          have HOX := Lib.hid (HON.out hgr)
          rw [hgr] at HGT
          have HCALL : Hid (∀ (K : Ending → World → Prop), (∀ w7, Below w2.heap.size w2 w7 → K (.returned (.tuple #[.agg (inoA ino0 (.slice none 0 0)), .slice none 0 0, .int .i64 e0])) w7) → Calls Try.prog 26 #[.pointer (some ⟨p, 0, none⟩), .int .i64 i] w2 K) := fun K hK => HGT.out.mono (fun e w7 h => by obtain ⟨hb, rfl⟩ := h; exact hK w7 hb)
          clear HGT HOI HON HLL hgr
          go_wp2_with fail
          refine HCALL.out _ (fun w7 hb7 => ?_)
          have HB7 := Lib.hid hb7
          clear hb7 HCALL
          have hszA : (inoL ino0 (.slice none 0 0)).toArray.size = 18 := by simp [inoL_len (show ino0.bl.length = 13 from rfl)]
          have HTH7 : Hid ((w7.alloc (.cells z18 25)).there w7.heap.size 0 (inoL ino0 (.slice none 0 0)).toArray.size) := by
            unfold Hid; rw [hszA]; exact ino_there w7 _
          have HISZ : Hid ((Try.prog.info? 25).map (·.size) = some (inoL ino0 (.slice none 0 0)).toArray.size) := by
            unfold Hid; rw [hszA]; exact Try.info18
          have HONE : Hid ((inoL ino0 (.slice none 0 0)).toArray.all (·.oneCell') = true) := all_oneCell_toArray (inoL_one rfl)
          have HROW := Lib.hid (ino_row w7 25 (inoL ino0 (.slice none 0 0)) (inoL_len (show ino0.bl.length = 13 from rfl) _))
          clear hszA
          go_wp2_with (with_reducible refine wpList_store_mid (op := ⟨none, _, _, _, _, _⟩) rfl 25 _ _ rfl w7.heap.size 0 (inoL ino0 (.slice none 0 0)).toArray rfl rfl HTH7.out HISZ.out HONE.out ?_)
          go_meet
          case rel =>
            rw [HOX.out]
            exact ⟨rfl, HoldsN.nil _, fun h => absurd rfl h, (mod_of_below HB7.out).step (mod_of_below HROW.out.2) (fun _ h => h)⟩
        | some rr =>
          obtain ⟨m, xs⟩ := rr
          have HML := Lib.hid (HLL.out m xs hgr)
          have HOX : Hid (ownI S i = xs) := HOI.out _ hgr
          rw [hgr] at HGT
          have HCALL : Hid (∀ (K : Ending → World → Prop), (∀ w7 ev bv, Below w2.heap.size w2 w7 → HoldsE w7 ev m.ents → HoldsN w7 bv xs → (∀ g, bv.ownBlock = some g → w2.heap.size ≤ g) → K (.returned (.tuple #[.agg (inoA m ev), bv, .int .i64 e0])) w7) → Calls Try.prog 26 #[.pointer (some ⟨p, 0, none⟩), .int .i64 i] w2 K) := fun K hK => HGT.out.mono (fun e w7 h => by obtain ⟨hb, ev, bv, rfl, h1, h2, h3, h4⟩ := h; exact hK w7 ev bv hb h1 h2 h4)
          clear HGT HOI HON HLL hgr
          go_wp2_with fail
          refine HCALL.out _ (fun w7 ev7 bv hb7 hmv hxv hgb => ?_)
          have HB7 := Lib.hid hb7
          have HGB := Lib.hid hgb
          have HXV := Lib.hid hxv
          obtain ⟨ma, mc, rfl, -, -, -, -⟩ := hmv
          clear hb7 HCALL hgb hxv
          have hszA : (inoL m (.slice ma m.ents.length mc)).toArray.size = 18 := by simp [inoL_len HML.out]
          have HTH7 : Hid ((w7.alloc (.cells z18 25)).there w7.heap.size 0 (inoL m (.slice ma m.ents.length mc)).toArray.size) := by
            unfold Hid; rw [hszA]; exact ino_there w7 _
          have HISZ : Hid ((Try.prog.info? 25).map (·.size) = some (inoL m (.slice ma m.ents.length mc)).toArray.size) := by
            unfold Hid; rw [hszA]; exact Try.info18
          have HONE : Hid ((inoL m (.slice ma m.ents.length mc)).toArray.all (·.oneCell') = true) := all_oneCell_toArray (inoL_one rfl)
          have HROW := Lib.hid (ino_row w7 25 (inoL m (.slice ma m.ents.length mc)) (inoL_len HML.out _))
          clear hszA
          go_wp2_with (with_reducible refine wpList_store_mid (op := ⟨none, _, _, _, _, _⟩) rfl 25 _ _ rfl w7.heap.size 0 (inoL m (.slice ma m.ents.length mc)).toArray rfl rfl HTH7.out HISZ.out HONE.out ?_)
          go_meet
          case rel =>
            rw [HOX.out]
            exact ⟨rfl, HXV.out.mod (mod_of_below HROW.out.2) (fun _ _ _ h => h), fun _ => HGB.out, (mod_of_below HB7.out).step (mod_of_below HROW.out.2) (fun _ h => h)⟩
      case rest =>
        obtain ⟨rfl, HV, HVB, HMC⟩ := hcut
        have HS3 : Hid (SheetAt wc p D S) := HS2.out.mod HMC.out (fun _ _ h => h)
        have HM3 : Hid (Mod nob w wc) := HM2.out.step HMC.out (fun _ h => h)
        have HB3 : Hid (InoB wc X n ev) := HB2.out.mod HMC.out (fun h => h)
        by_cases h10 : getE S i = 10
        · have hp : putI S i n = (10, S) := by rw [HPI.out, if_pos h10]
          have HP10 := Lib.hid hp
          rw [h10]
          clear hp h10 HPI HGT
          go_wp2_with fail
          go_ret
          rw [HP10.out]
          exact ⟨rfl, ShStep.from HSH.out HM3.out (ShStep.start HS3.out)⟩
        · have hp : putI S i n = if needI n ≤ freeN (giveS S (ownI S i)) then (0, layI (giveS S (ownI S i)) i n) else (7, S) := by rw [HPI.out, if_neg h10]
          obtain ⟨ol1, ol2⟩ := ownI_law HSH.out.ok i
          have hGV := give_any HS3.out (by have := HSL.out; omega) HV.out (fun h0 g hg hd => by have h1 := HVB.out h0 g hg; have h2 := HS2.out.lt g hd; omega) ol1
          have HGV := Lib.hid hGV
          obtain ⟨S1, hS1⟩ : ∃ S1, S1 = giveS S (ownI S i) := ⟨_, rfl⟩
          have hw1 : S1.was.length ≤ S.was.length + 40 := by rw [hS1]; have := giveS_was (ownI S i) S; omega
          have hbk : S1.back (S.was.length : Nat) = S := by rw [hS1]; exact giveS_back _ ol1 S
          rw [← hS1] at hp HGV
          have HP := Lib.hid hp
          have HW1 := Lib.hid hw1
          have HBK := Lib.hid hbk
          have h10b : ((getE S i) == 10) = false := beq_false_of_ne h10
          generalize getE S i = e0 at *
          clear hGV hS1 hp hw1 hbk ol1 ol2 h10 HPI HGT
          go_wp2_with fail
          refine HGV.out.mono ?_
          rintro e w4 ⟨rfl, hk4⟩
          have HK4 := Lib.hid hk4
          have hDX : ¬ D X := fun hd => by have h1 := HSH.out.lt X hd; have h2 := HXX.out; omega
          have HB4 : Hid (InoB w4 X n ev) := HB3.out.mod hk4.2 hDX
          have HE4 : Hid (HoldsE w4 ev n.ents) := (HE.out.mod HM3.out (fun _ _ _ h => h)).mod hk4.2 HED.out
          have HED4 : Hid (n.ents ≠ [] → ∀ g, ev.ownBlock = some g → ¬ grow D wc w4 g) := fun h0 g hg hd => by
            rcases hd with hd | hd
            · exact HED.out h0 g hg hd
            · have h1 := HE.out.lt h0 g hg; have h2 := HM3.out.size; omega
          have HRG4 := Lib.hid (HB4.out.at.range HNO.out.len)
          have c0 := HB4.out.at.c0
          have hfm := HR.out.1
          have HFREE := Lib.hid (rfl : freeN S1 = freeN S1)
          by_cases hf : n.format = 2
          · have hlay : Calls Try.prog 57 #[.pointer (some ⟨p, 0, none⟩), .int .i64 i, .agg (inoL n ev).toArray] w4 fun e w' => e = .returned (.int .i64 (if needI n ≤ freeN S1 then 0 else 7)) ∧ ShStep w4 p (grow D wc w4) w' (if needI n ≤ freeN S1 then layI S1 i n else S1) := by
              have := lay2_ok HK4.out.1 (by have := HSL.out; have := HW1.out; omega) i HI0.out.1 HI0.out.2 HNO.out HE4.out HED4.out HR.out hf
              unfold needI layI
              rw [if_pos hf, if_pos hf]
              exact this
            have HLAY := Lib.hid hlay
            rw [hf] at c0
            clear hlay hf hk4 hDX hfm
            by_cases hfr : needI n ≤ freeN S1
            · have hp := HP.out
              rw [if_pos hfr] at hp
              have HP2 := Lib.hid hp
              have hl := HLAY.out
              rw [if_pos hfr, if_pos hfr] at hl
              have HLAY2 := Lib.hid hl
              clear hp hl HLAY hfr
              go_wp2_with (first
                | (with_reducible refine wpList_load_mid (op := ⟨some 42, _, _, _, _, _⟩) rfl 25 _ rfl X 0 rfl (inoL n ev) _ HRG4.out Try.underlying25 rfl (by rw [HLEN.out]; exact Try.info18) ?_)
                | (go_at_call 57; refine HLAY2.out.mono ?_; rintro e w5 ⟨rfl, hk5⟩)
                | (go_at_call 56; refine HLAY2.out.mono ?_; rintro e w5 ⟨rfl, hk5⟩))
              go_ret
              rw [HP2.out]
              exact ⟨rfl, ShStep.from HSH.out HM3.out (HK4.out.step' hk5)⟩
            · have hp := HP.out
              rw [if_neg hfr] at hp
              have HP2 := Lib.hid hp
              have hl := HLAY.out
              rw [if_neg hfr, if_neg hfr] at hl
              have HLAY2 := Lib.hid hl
              clear hp hl HLAY hfr
              go_upto_region 13 with (first
                | (with_reducible refine wpList_load_mid (op := ⟨some 42, _, _, _, _, _⟩) rfl 25 _ rfl X 0 rfl (inoL n ev) _ HRG4.out Try.underlying25 rfl (by rw [HLEN.out]; exact Try.info18) ?_)
                | (go_at_call 57; refine HLAY2.out.mono ?_; rintro e w5 ⟨rfl, hk5⟩)
                | (go_at_call 56; refine HLAY2.out.mono ?_; rintro e w5 ⟨rfl, hk5⟩))
              have HK5 : Hid (ShStep wc p D w5 S1) := HK4.out.step' hk5
              have hbk := sheet_back HK5.out.1 (by have := HSL.out; have := HW1.out; omega) (S.was.length : Nat)
              rw [HBK.out] at hbk
              have HBKC := Lib.hid hbk
              clear hk5 hbk
              go_wp2_with fail
              refine HBKC.out.mono ?_
              rintro e w6 ⟨rfl, h6, m6⟩
              go_wp2_with fail
              go_ret
              rw [HP2.out]
              refine ⟨rfl, ShStep.from HSH.out HM3.out ⟨?_, ?_⟩⟩
              · refine h6.mono (fun b hb => ?_) (fun b hb => ?_)
                · have h1 := m6.size
                  rcases hb with hb | hb
                  · exact .inl hb
                  · exact .inr ⟨hb.1, by omega⟩
                · have h1 := m6.size
                  rcases hb with hb | hb
                  · have := HS3.out.lt b hb; have := HK5.out.2.size; omega
                  · exact hb.2
              · exact HK5.out.2.trans (m6.mono (fun b _ hb => hb))
          · have hf1 : n.format = 1 := by omega
            have hlay : Calls Try.prog 56 #[.pointer (some ⟨p, 0, none⟩), .int .i64 i, .agg (inoL n ev).toArray] w4 fun e w' => e = .returned (.int .i64 (if needI n ≤ freeN S1 then 0 else 7)) ∧ ShStep w4 p (grow D wc w4) w' (if needI n ≤ freeN S1 then layI S1 i n else S1) := by
              have := lay1_ok HK4.out.1 (by have := HSL.out; have := HW1.out; omega) i HI0.out.1 HI0.out.2 HNO.out HE4.out HED4.out HR.out hf1
              unfold needI layI
              rw [if_neg hf, if_neg hf]
              exact this
            have HLAY := Lib.hid hlay
            rw [hf1] at c0
            clear hlay hf hk4 hDX hfm hf1
            by_cases hfr : needI n ≤ freeN S1
            · have hp := HP.out
              rw [if_pos hfr] at hp
              have HP2 := Lib.hid hp
              have hl := HLAY.out
              rw [if_pos hfr, if_pos hfr] at hl
              have HLAY2 := Lib.hid hl
              clear hp hl HLAY hfr
              go_wp2_with (first
                | (with_reducible refine wpList_load_mid (op := ⟨some 42, _, _, _, _, _⟩) rfl 25 _ rfl X 0 rfl (inoL n ev) _ HRG4.out Try.underlying25 rfl (by rw [HLEN.out]; exact Try.info18) ?_)
                | (go_at_call 57; refine HLAY2.out.mono ?_; rintro e w5 ⟨rfl, hk5⟩)
                | (go_at_call 56; refine HLAY2.out.mono ?_; rintro e w5 ⟨rfl, hk5⟩))
              go_ret
              rw [HP2.out]
              exact ⟨rfl, ShStep.from HSH.out HM3.out (HK4.out.step' hk5)⟩
            · have hp := HP.out
              rw [if_neg hfr] at hp
              have HP2 := Lib.hid hp
              have hl := HLAY.out
              rw [if_neg hfr, if_neg hfr] at hl
              have HLAY2 := Lib.hid hl
              clear hp hl HLAY hfr
              go_upto_region 13 with (first
                | (with_reducible refine wpList_load_mid (op := ⟨some 42, _, _, _, _, _⟩) rfl 25 _ rfl X 0 rfl (inoL n ev) _ HRG4.out Try.underlying25 rfl (by rw [HLEN.out]; exact Try.info18) ?_)
                | (go_at_call 57; refine HLAY2.out.mono ?_; rintro e w5 ⟨rfl, hk5⟩)
                | (go_at_call 56; refine HLAY2.out.mono ?_; rintro e w5 ⟨rfl, hk5⟩))
              have HK5 : Hid (ShStep wc p D w5 S1) := HK4.out.step' hk5
              have hbk := sheet_back HK5.out.1 (by have := HSL.out; have := HW1.out; omega) (S.was.length : Nat)
              rw [HBK.out] at hbk
              have HBKC := Lib.hid hbk
              clear hk5 hbk
              go_wp2_with fail
              refine HBKC.out.mono ?_
              rintro e w6 ⟨rfl, h6, m6⟩
              go_wp2_with fail
              go_ret
              rw [HP2.out]
              refine ⟨rfl, ShStep.from HSH.out HM3.out ⟨?_, ?_⟩⟩
              · refine h6.mono (fun b hb => ?_) (fun b hb => ?_)
                · have h1 := m6.size
                  rcases hb with hb | hb
                  · exact .inl hb
                  · exact .inr ⟨hb.1, by omega⟩
                · have h1 := m6.size
                  rcases hb with hb | hb
                  · have := HS3.out.lt b hb; have := HK5.out.2.size; omega
                  · exact hb.2
              · exact HK5.out.2.trans (m6.mono (fun b _ hb => hb))
end Go.Proofs.Ytlopdbhjdijlmaa

namespace Go.Proofs.Ytlopdbhjdijlmaa
open Go.ChangeShapes Go.WideShapes Go.ChangeAt Go.RowKit
set_option linter.unusedSimpArgs false
set_option linter.unusedVariables false

/-- The first inode that is free, from one on; what New answers. -/
noncomputable def newI (S : Sh) (n : Ino) : Nat → Nat → Int × Int × Sh
  | _, 0 => (0, 7, S)
  | i, f + 1 => if freeI S (i : Int) = true then ((i : Int), (putI S (i : Int) n).1, (putI S (i : Int) n).2) else newI S n (i + 1) f

set_option maxRecDepth 20000 in
set_option maxHeartbeats 2000000 in
theorem new_ino {w : World} {p : Nat} {D : Nat → Prop} {S : Sh} (h : SheetAt w p D S) (hlen : S.was.length + 10000 < 1099511627776) {n : Ino} {ev : Value} (hn : n.Ok) (he : HoldsE w ev n.ents) (hed : n.ents ≠ [] → ∀ g, ev.ownBlock = some g → ¬ D g) :
    Calls Try.prog 22 #[.pointer (some ⟨p, 0, none⟩), .agg (inoA n ev)] w fun e w' => e = .returned (.tuple #[.int .i64 (newI S n 0 32).1, .int .i64 (newI S n 0 32).2.1]) ∧ ShStep w p D w' (newI S n 0 32).2.2 := by
  have hb := InoB.new w hn.len ev
  have HSA : Hid ((Try.prog.info? 25).map (·.size) = some (inoL n ev).length) := by
    unfold Hid; rw [inoL_len hn.len]; exact Try.info18
  have HRG := Lib.hid (hb.at.range hn.len)
  have HM0 : Hid (Mod nob w (w.alloc (.cells (inoA n ev) 25))) := (Mod.refl nob w).alloc _
  have HSH := Lib.hid h
  have hs0 : SheetAt (w.alloc (.cells (inoA n ev) 25)) p D S := h.mod HM0.out (fun _ _ h => h)
  have HFR := Lib.hid (fun (i : Int) => ino_free hs0 i)
  have HPU := Lib.hid (fun (i : Int) => put_ino hs0 hlen i hn (he.mod HM0.out (fun _ _ _ h => h)) hed)
  obtain ⟨r, hr⟩ : ∃ r, r = newI S n 0 32 := ⟨_, rfl⟩
  rw [← hr]
  have HR0 : Hid (r = newI S n 0 32) := hr
  clear hb h hs0 hn he hed hr
  go_enter Try.func22, Try.ntmps22
  go_wp2_with fail
  generalize w.alloc (.cells (inoA n ev) 25) = w0 at *
  obtain ⟨X, hX⟩ : ∃ X, X = w.heap.size := ⟨_, rfl⟩
  rw [← hX] at HRG ⊢
  clear hX
  go_loopg [7] 32 (fun gk iv wr => ∃ k : Nat, k + gk = 32 ∧ iv = .int .i64 k ∧ Hid (r = newI S n k gk) ∧ w0 = wr)
  case atStart => exact ⟨0, by omega, rfl, HR0.out, rfl⟩
  case round =>
    obtain ⟨k, hk, rfl, HR, rfl⟩ := hrel
    by_cases hlt : k < 32
    · have hki : (k : Int) < 32 := by omega
      obtain ⟨f, rfl⟩ : ∃ f, gk = f + 1 := ⟨gk - 1, by omega⟩
      have hstep : newI S n k (f + 1) = if freeI S (k : Int) = true then ((k : Int), (putI S (k : Int) n).1, (putI S (k : Int) n).2) else newI S n (k + 1) f := rfl
      have HFK := Lib.hid (HFR.out (k : Int))
      have HPK := Lib.hid (HPU.out (k : Int))
      cases hf : freeI S (k : Int) with
      | true =>
        rw [hf] at HFK
        rw [if_pos hf] at hstep
        have HRES := Lib.hid (HR.out.trans hstep)
        clear hstep hf HR
        go_wp2_with (first
          | (go_at_call 27; refine HFK.out.mono ?_; rintro e w' ⟨rfl, rfl⟩)
          | (with_reducible refine wpList_load_mid (op := ⟨some 16, _, _, _, _, _⟩) rfl 25 _ rfl X 0 rfl (inoL n ev) _ HRG.out Try.underlying25 rfl HSA.out ?_)
          | (go_at_call 21; refine HPK.out.mono ?_; rintro e w2 ⟨rfl, hk2⟩))
        go_ret2
        rw [HRES.out]
        exact ⟨rfl, ShStep.from HSH.out HM0.out hk2⟩
      | false =>
        rw [hf] at HFK
        rw [if_neg (by rw [hf]; decide)] at hstep
        have HRES := Lib.hid (HR.out.trans hstep)
        clear hstep hf HR
        go_wp2_with (go_at_call 27; refine HFK.out.mono ?_; rintro e w' ⟨rfl, rfl⟩)
        go_roundg f
        case measure => omega
        case rel => exact ⟨k + 1, by omega, by go_num, HRES.out, rfl⟩
    · have hge : ¬ (k : Int) < 32 := by omega
      obtain rfl : gk = 0 := by omega
      have hres : r = (0, 7, S) := HR.out
      have HRES := Lib.hid hres
      clear hres
      go_wp2_with fail
      go_ret2
      rw [HRES.out]
      exact ⟨rfl, ShStep.from HSH.out HM0.out (ShStep.start (HSH.out.mod HM0.out (fun _ _ h => h)))⟩

/-- A file of holes. -/
def n8 : Ino := ⟨1, 1, 1, 0, List.replicate 13 0, []⟩
theorem n8_ok : n8.Ok := by
  refine ⟨by unfold n8 i64; decide, by unfold n8 i64; decide, by unfold n8 i64; decide, by unfold n8 i64; decide, by simp [n8], fun x hx => ?_, fun x hx => by cases hx⟩
  have hx' : x ∈ List.replicate 13 (0 : Int) := hx
  rw [List.eq_of_mem_replicate hx']
  unfold i64; omega
theorem n8_right : RightP n8 := by
  have h0 : ∀ k, (List.replicate 13 (0 : Int)).getD k 0 = 0 := by
    intro k
    rw [List.getD_eq_getElem?_getD, List.getElem?_replicate]
    split <;> rfl
  refine ⟨.inl rfl, by decide, by decide, .inl ⟨rfl, ?_, by decide, by decide, rfl⟩⟩
  intro k hk
  have e : n8.bl.getD k 0 = 0 := h0 k
  rw [e]
  exact ⟨by omega, fun h => absurd rfl h⟩
theorem n8_need1 : need1 n8 = 0 := rfl
theorem n8_more1 : more1 n8 = 0 := by
  unfold more1
  rw [if_neg]
  rintro (h | ⟨k, h3, h4, h5⟩)
  · rw [n8_need1] at h; omega
  · refine h5 ?_
    show (List.replicate 13 (0 : Int)).getD k 0 = 0
    rw [List.getD_eq_getElem?_getD, List.getElem?_replicate]
    split <;> rfl
theorem n8_need : needI n8 = 0 := by
  unfold needI
  rw [if_neg (by decide), n8_need1, n8_more1]

theorem awake8_law : (newI (Sh.new []) n8 0 32).1 = 0 ∧ (newI (Sh.new []) n8 0 32).2.1 = 0 ∧ freeI (newI (Sh.new []) n8 0 32).2.2 0 = false ∧ freeI (newI (Sh.new []) n8 0 32).2.2 1 = true := by
  obtain ⟨g1, g2, g3⟩ := get_free (S := Sh.new []) (i := 0) ⟨by omega, by omega⟩ (fun j _ _ => new_nil_get j)
  have hn : newI (Sh.new []) n8 0 32 = (0, (putI (Sh.new []) 0 n8).1, (putI (Sh.new []) 0 n8).2) := by
    have hstep : newI (Sh.new []) n8 0 32 = if freeI (Sh.new []) ((0 : Nat) : Int) = true then (((0 : Nat) : Int), (putI (Sh.new []) ((0 : Nat) : Int) n8).1, (putI (Sh.new []) ((0 : Nat) : Int) n8).2) else newI (Sh.new []) n8 1 31 := rfl
    have e0 : ((0 : Nat) : Int) = 0 := rfl
    rw [hstep, e0, if_pos g1]
  have hp : putI (Sh.new []) 0 n8 = (0, layI (Sh.new []) 0 n8) := by
    unfold putI
    rw [if_neg (by omega), if_neg (fun h => h n8_right), if_neg (by rw [g2]; decide), g3, if_pos (by rw [n8_need]; omega)]
    rfl
  have hl : layI (Sh.new []) 0 n8 = lay1S (Sh.new []) 0 n8 := by unfold layI; rw [if_neg (by decide)]
  obtain ⟨xs, hI, -⟩ := layI_in (Sh.new []) (i := 0) ⟨by omega, by omega⟩ n8_ok n8_right (by rw [n8_need]; omega)
  have hfree : need1 n8 + more1 n8 ≤ freeN (Sh.new []) := by rw [n8_need1, n8_more1]; omega
  rw [hn, hp]
  refine ⟨rfl, rfl, ?_, ?_⟩
  · have he := hI.err
    cases hf : freeI (layI (Sh.new []) 0 n8) 0 with
    | false => rfl
    | true =>
      unfold getE at he
      rw [if_neg (by omega), if_pos hf] at he
      cases he
  · refine (freeI_iff _ _).2 ⟨⟨by omega, by omega⟩, fun j hj => ?_⟩
    show (layI (Sh.new []) 0 n8).get _ = 0
    have hX : layX (Sh.new []) n8 = [] := List.eq_nil_of_length_eq_zero (by rw [(lay1S_laid (Sh.new []) 0 ⟨by omega, by omega⟩ n8 n8_right hfree).len, n8_need1, n8_more1])
    rw [hl, lay1S_out (Sh.new []) 0 ⟨by omega, by omega⟩ n8 n8_right hfree _ (by omega) (by omega) (fun x hx => by rw [hX] at hx; cases hx)]
    exact new_nil_get _

set_option maxRecDepth 20000 in
theorem awake8 (w : World) : Calls Try.prog 17 #[] w fun e w' => e = .returned (.bool true) ∧ Below w.heap.size w w' := by
  obtain ⟨S, hS⟩ : ∃ S, S = Sh.new [] := ⟨_, rfl⟩
  obtain ⟨l1, l2, l3, l4⟩ := awake8_law
  have HTX := Lib.hid (tx_new (HoldsU.nil w) (xs := []) (fun z hz => by cases hz))
  rw [← hS] at l1 l2 l3 l4 HTX
  have hw0 : S.was.length = 0 := by rw [hS]; rfl
  have HNW : Hid (∀ ws p D, SheetAt ws p D S → Calls Try.prog 22 #[.pointer (some ⟨p, 0, none⟩), .agg #[.int .i64 1, .int .i64 1, .int .i64 1, .int .i64 0, .int .i64 0, .int .i64 0, .int .i64 0, .int .i64 0, .int .i64 0, .int .i64 0, .int .i64 0, .int .i64 0, .int .i64 0, .int .i64 0, .int .i64 0, .int .i64 0, .int .i64 0, .slice none 0 0]] ws fun e w' => e = .returned (.tuple #[.int .i64 0, .int .i64 0]) ∧ ShStep ws p D w' (newI S n8 0 32).2.2) := fun ws p D h => by
    have := new_ino h (by omega) n8_ok (HoldsE.nil ws) (fun h => absurd rfl h)
    rw [l1, l2] at this
    exact this
  obtain ⟨T, hT⟩ : ∃ T, T = (newI S n8 0 32).2.2 := ⟨_, rfl⟩
  rw [← hT] at l3 l4 HNW
  have HFR : Hid (∀ ws p D, SheetAt ws p D T → ∀ i, Calls Try.prog 27 #[.pointer (some ⟨p, 0, none⟩), .int .i64 i] ws fun e w' => e = .returned (.bool (freeI T i)) ∧ ws = w') := fun ws p D h i => ino_free h i
  have L3 := Lib.hid l3
  have L4 := Lib.hid l4
  clear l1 l2 l3 l4 hT hS hw0
  go_enter Try.func17, Try.ntmps17
  go_wp2_with fail
  refine HTX.out.mono ?_
  rintro e w1 ⟨p, rfl, hs, hb1⟩
  have HS := Lib.hid hs
  have HB1 := Lib.hid hb1
  clear hs hb1
  go_wp2_with fail
  refine (HNW.out _ _ _ HS.out).mono ?_
  rintro e w2 ⟨rfl, hk2⟩
  have HK2 := Lib.hid hk2
  have HF0 := Lib.hid (HFR.out _ _ _ HK2.out.1 0)
  have HF1 := Lib.hid (HFR.out _ _ _ HK2.out.1 1)
  rw [L3.out] at HF0
  rw [L4.out] at HF1
  clear hk2
  go_wp2_with (first
    | (go_at_call 27; with_reducible refine HF0.out.mono ?_; rintro e w' ⟨rfl, rfl⟩)
    | (go_at_call 27; with_reducible refine HF1.out.mono ?_; rintro e w' ⟨rfl, rfl⟩))
  go_ret
  refine ⟨rfl, HB1.out.trans (HK2.out.2.below HB1.out.size (fun b hb => ?_))⟩
  rcases hb with hb | hb
  · exact hb.elim
  · exact hb.1

/-- An inode without blocks. -/
def emptyN (n : Ino) : Ino := { n with bl := List.replicate 13 0 }
def z13' : Array Value := #[.int .i64 0, .int .i64 0, .int .i64 0, .int .i64 0, .int .i64 0, .int .i64 0, .int .i64 0, .int .i64 0, .int .i64 0, .int .i64 0, .int .i64 0, .int .i64 0, .int .i64 0]
theorem emptyN_ok {n : Ino} (h : n.Ok) : (emptyN n).Ok := by
  obtain ⟨h1, h2, h3, h4, h5, h6, h7⟩ := h
  refine ⟨h1, h2, h3, h4, by simp [emptyN], fun x hx => ?_, h7⟩
  have hx' : x ∈ List.replicate 13 (0 : Int) := hx
  rw [List.eq_of_mem_replicate hx']
  unfold i64; omega
theorem emptyN_right {n : Ino} (h : RightP n) : RightP (emptyN n) := by
  have h0 : ∀ k, (emptyN n).bl.getD k 0 = 0 := by
    intro k
    show (List.replicate 13 (0 : Int)).getD k 0 = 0
    rw [List.getD_eq_getElem?_getD, List.getElem?_replicate]
    split <;> rfl
  obtain ⟨h1, h2, h3, h4⟩ := h
  refine ⟨h1, h2, h3, ?_⟩
  rcases h4 with ⟨hk, h5, h6, h7, h8⟩ | ⟨hk, h5, h6, h7, h8⟩
  · refine .inl ⟨hk, fun k hk => ?_, h6, h7, h8⟩
    rw [h0]
    exact ⟨by omega, fun h => absurd rfl h⟩
  · exact .inr ⟨hk, h5, h6, h7, fun k _ => h0 k⟩

set_option maxRecDepth 20000 in
set_option maxHeartbeats 2000000 in
theorem empty8 {w : World} {n : Ino} {ev : Value} (hn : n.Ok) (he : HoldsE w ev n.ents) :
    Calls Try.prog 20 #[.agg (inoA n ev)] w fun e w' => e = .returned (.agg (inoA (emptyN n) ev)) ∧ Below w.heap.size w w' := by
  obtain ⟨ea, ec, rfl, -, -, -, -⟩ := he
  have hb1 : InoB ((w.alloc (.cells (inoA n (.slice ea n.ents.length ec)) 25)).alloc (.cells z18 25)) w.heap.size n (.slice ea n.ents.length ec) := (InoB.new w hn.len (.slice ea n.ents.length ec)).mod ((Mod.refl nob _).alloc _) (fun h => h)
  have hb2 : InoB ((w.alloc (.cells (inoA n (.slice ea n.ents.length ec)) 25)).alloc (.cells z18 25)) (w.heap.size + 1) ino0 (.slice none 0 0) := by
    have := inoB_lit0 (f := 0) (k := 0) (l := 0) (s := 0) (ev := .slice none 0 0) (heap_alloc_new (w.alloc (.cells (inoA n (.slice ea n.ents.length ec)) 25)) (.cells z18 25))
    rw [show (w.alloc (.cells (inoA n (.slice ea n.ents.length ec)) 25)).heap.size = w.heap.size + 1 by simp] at this
    exact this
  have HBEL : Hid (Below w.heap.size w ((w.alloc (.cells (inoA n (.slice ea n.ents.length ec)) 25)).alloc (.cells z18 25))) := ((Below.refl _ _).alloc (Nat.le_refl _) _).alloc (by simp) _
  have HEL : Hid ((emptyN n).bl.length = 13) := by unfold Hid emptyN; simp
  have HISZ4 : Hid ((Try.prog.info? 22).map (·.size) = some (z13').size) := Try.info13
  have HONE4 : Hid ((z13').all (·.oneCell') = true) := all_oneCell_toArray (cs := (List.replicate 13 (0 : Int)).map (Value.int .i64)) (ints_oneCell _ _)
  generalize hw0 : (w.alloc (.cells (inoA n (.slice ea n.ents.length ec)) 25)).alloc (.cells z18 25) = w0 at *
  have HTH4 : Hid (w0.there w.heap.size 4 (z13').size) := hb1.there4
  have HI1 : Hid (InoB (w0.setCells w.heap.size 4 (z13').toList) w.heap.size (emptyN n) (.slice ea n.ents.length ec)) := by
    have := hb1.setBls (List.replicate 13 0) (by simp)
    exact this
  have HM1 : Hid (Mod (fun b => b = w.heap.size) w0 (w0.setCells w.heap.size 4 (z13').toList)) := Mod.setCells (D := fun b => b = w.heap.size) w.heap.size (.inl rfl) _ _ _ (Mod.refl (fun b => b = w.heap.size) w0)
  have HZ1 : Hid (InoB (w0.setCells w.heap.size 4 (z13').toList) (w.heap.size + 1) ino0 (.slice none 0 0)) := hb2.mod HM1.out (by omega)
  have HB1 : Hid (Below w.heap.size w (w0.setCells w.heap.size 4 (z13').toList)) := HBEL.out.trans (Lib.below_setCells_w (Nat.le_refl _) _ _ _)
  subst hw0
  clear hb1 hb2 hn
  go_enter Try.func20, Try.ntmps20
  go_upto_region 2 with (with_reducible refine wpList_store_mid (op := ⟨none, _, _, _, _, _⟩) rfl 22 _ _ rfl w.heap.size 4 z13' rfl rfl HTH4.out HISZ4.out HONE4.out ?_)
  generalize ((w.alloc (.cells (inoA n (.slice ea n.ents.length ec)) 25)).alloc (.cells z18 25)).setCells w.heap.size 4 z13'.toList = w1 at *
  clear HBEL HTH4 HM1 HISZ4 HONE4
  obtain ⟨X, hX⟩ : ∃ X, X = w.heap.size := ⟨_, rfl⟩
  rw [← hX] at HI1 HZ1 ⊢
  have HXX := Lib.hid hX
  clear hX
  have HRG := Lib.hid (HI1.out.at.range HEL.out)
  have hszA : (inoL (emptyN n) (.slice ea n.ents.length ec)).toArray.size = 18 := by simp [inoL_len HEL.out]
  have HISL : Hid ((Try.prog.info? 25).map (·.size) = some (inoL (emptyN n) (.slice ea n.ents.length ec)).length) := by
    unfold Hid; rw [inoL_len HEL.out]; exact Try.info18
  have HISA : Hid ((Try.prog.info? 25).map (·.size) = some (inoL (emptyN n) (.slice ea n.ents.length ec)).toArray.size) := by
    unfold Hid; rw [hszA]; exact Try.info18
  have HTH : Hid (w1.there (X + 1) 0 (inoL (emptyN n) (.slice ea n.ents.length ec)).toArray.size) := by
    unfold Hid; rw [hszA]; exact HZ1.out.there
  have HONE : Hid ((inoL (emptyN n) (.slice ea n.ents.length ec)).toArray.all (·.oneCell') = true) := all_oneCell_toArray (inoL_one rfl)
  have HI2 := Lib.hid (HZ1.out.whole (m := emptyN n) (ev' := (.slice ea n.ents.length ec)) HEL.out)
  have HB2 : Hid (Below w.heap.size w (w1.setCells (X + 1) 0 (inoL (emptyN n) (.slice ea n.ents.length ec)))) := HB1.out.trans (Lib.below_setCells_w (by have := HXX.out; omega) _ _ _)
  clear hszA
  simp only [Act.put]
  go_cut [5] (fun _ wc => Hid (InoB wc (X + 1) (emptyN n) (.slice ea n.ents.length ec)) ∧ Hid (Below w.heap.size w wc))
  case first =>
    go_wp2_with (first
      | (with_reducible refine wpList_load_mid (op := ⟨some 5, _, _, _, _, _⟩) rfl 25 _ rfl X 0 rfl (inoL (emptyN n) (.slice ea n.ents.length ec)) _ HRG.out Try.underlying25 rfl HISL.out ?_)
      | (with_reducible refine wpList_store_mid (op := ⟨none, _, _, _, _, _⟩) rfl 25 _ _ rfl (X + 1) 0 (inoL (emptyN n) (.slice ea n.ents.length ec)).toArray rfl rfl HTH.out HISA.out HONE.out ?_))
    go_meet
    case rel => exact ⟨HI2.out, HB2.out⟩
  case rest =>
    obtain ⟨HIA, HBE⟩ := hcut
    have hlv := run_loadVar_mid (P := Try.prog) wc (X + 1) 0 25 _ _ (HIA.out.at.range HEL.out) Try.underlying25 rfl HISL.out
    have HLV := Lib.hid hlv
    clear hlv
    go_wp2_with fail
    refine bodyPost_ret (v := .agg (inoL (emptyN n) (.slice ea n.ents.length ec)).toArray) ?_ rfl ⟨rfl, HBE.out⟩
    have hlv := HLV.out
    simp [results, Try.results20, asAddr, hlv]
end Go.Proofs.Ytlopdbhjdijlmaa
