/-
  inode.Put: a contract. No condition but the sheet, and bounds.
-/
import Derived.Test.YtlopdbhjdijlmaaQGet8
import Derived.Test.YtlopdbhjdijlmaaQInoM
import Derived.Test.YtlopdbhjdijlmaaQLayAny
import Derived.Test.YtlopdbhjdijlmaaQLayTwo

namespace Go.Proofs.Ytlopdbhjdijlmaa
open Go.ChangeShapes Go.WideShapes Go.ChangeAt Go.RowKit
set_option linter.unusedSimpArgs false
set_option linter.unusedVariables false

set_option maxRecDepth 20000 in
set_option maxHeartbeats 8000000 in
theorem put_ino {w : World} {p : Nat} {D : Nat → Prop} {S : Sh} (h : SheetAt w p D S) (hlen : S.was.length + 10000 < 1099511627776) (i : Int) {n : Ino} {ev : Value} (hn : n.Ok) (he : HoldsE w ev n.ents) (hed : n.ents ≠ [] → ∀ g, ev.ownBlock = some g → ¬ D g) :
    Calls Try.prog 21 #[.pointer (some ⟨p, 0, none⟩), .int .i64 i, .agg (inoA n ev)] w fun e w' => e = .returned (.int .i64 (putI S i n).1) ∧ ShStep w p D w' (putI S i n).2 := by
  have hb := InoB.new w hn.len ev
  have HB := Lib.hid hb
  have HNO := Lib.hid hn
  have HSH := Lib.hid h
  have HE := Lib.hid he
  have HED := Lib.hid hed
  have HSL := Lib.hid hlen
  have hleni : (inoL n ev).length = 18 := inoL_len hn.len ev
  have HLEN := Lib.hid hleni
  have HRG := Lib.hid (hb.at.range hn.len)
  have HM0 : Hid (Mod nob w (w.alloc (.cells (inoA n ev) 25))) := (Mod.refl nob w).alloc _
  have hBs : w.heap.size < (w.alloc (.cells (inoA n ev) 25)).heap.size := by simp
  have HRI : Hid (Calls Try.prog 54 #[.agg (inoL n ev).toArray] (w.alloc (.cells (inoA n ev) 25)) fun e w' => e = .returned (.bool (rightB n)) ∧ Below (w.alloc (.cells (inoA n ev) 25)).heap.size (w.alloc (.cells (inoA n ev) 25)) w') := right_any hn (he.mod HM0.out (fun _ _ _ h => h))
  have HIN : Hid (∀ wx, Calls Try.prog 53 #[.int .i64 i] wx fun e w' => e = .returned (.int .i64 (inoAt i)) ∧ wx = w') := fun wx => inode_any i wx
  have hia : inoAt i = if i < 0 ∨ 32 ≤ i then -1 else 824 + i * 8 := rfl
  have HIA := Lib.hid hia
  clear hb hn he h hleni hia hed hlen
  by_cases hi : i < 0 ∨ 32 ≤ i
  · have hat : inoAt i = -1 := by rw [HIA.out, if_pos hi]
    have hp : putI S i n = (1, S) := by unfold putI; rw [if_pos hi]
    rw [hat] at HIN
    rw [hp]
    clear hat hi hp
    go_enter Try.func21, Try.ntmps21
    go_wp2_with fail
    refine (HIN.out _).mono ?_
    rintro e w1 ⟨rfl, rfl⟩
    go_wp2_with fail
    go_ret
    exact ⟨rfl, (ShStep.start HSH.out).still HM0.out⟩
  · have hat : inoAt i = 824 + i * 8 := by rw [HIA.out, if_neg hi]
    rw [hat] at HIN
    have hge : ¬ 824 + i * 8 < 0 := by omega
    have hd : decide (824 + i * 8 < 0) = false := by simpa using hge
    have HI := Lib.hid hi
    clear hat hi
    by_cases hr : RightP n
    case neg =>
      have hp : putI S i n = (1, S) := by unfold putI; rw [if_neg HI.out, if_pos hr]
      have hrb : rightB n = false := rightB_false hr
      rw [hp]
      rw [hrb] at HRI
      clear hp hr hrb
      go_enter Try.func21, Try.ntmps21
      go_wp2_with fail
      refine (HIN.out _).mono ?_
      rintro e w1 ⟨rfl, rfl⟩
      go_wp2_with (first
        | ((refine wpList_unguard (o := ⟨some 17, _, _, _, _, _⟩) (by rfl) ?_; with_reducible refine wpList_load_mid rfl 25 _ rfl w.heap.size 0 rfl (inoL n ev) _ HRG.out Try.underlying25 rfl (by rw [HLEN.out]; exact Try.info18) ?_))
        | (go_at_call 54; refine HRI.out.mono ?_; rintro e w2 ⟨rfl, hb2⟩; have HB2 := Lib.hid hb2; clear hb2))
      go_ret
      exact ⟨rfl, (ShStep.start HSH.out).still (HM0.out.step (mod_of_below HB2.out) (fun _ h => h))⟩
    case pos =>
      rw [rightB_true hr] at HRI
      have HR := Lib.hid hr
      have hi0 : 0 ≤ i ∧ i < 32 := by have := HI.out; omega
      have HPI : Hid (putI S i n = if getE S i = 10 then (10, S) else if needI n ≤ freeN (giveS S (ownI S i)) then (0, layI (giveS S (ownI S i)) i n) else (7, S)) := by unfold Hid putI; rw [if_neg HI.out, if_neg (fun h => h hr)]
      have HI0 := Lib.hid hi0
      clear hr hge hi0
      go_enter Try.func21, Try.ntmps21
      go_wp2_with fail
      refine (HIN.out _).mono ?_
      rintro e w1 ⟨rfl, rfl⟩
      go_upto_region 3 with (first
        | ((refine wpList_unguard (o := ⟨some 17, _, _, _, _, _⟩) (by rfl) ?_; with_reducible refine wpList_load_mid rfl 25 _ rfl w.heap.size 0 rfl (inoL n ev) _ HRG.out Try.underlying25 rfl (by rw [HLEN.out]; exact Try.info18) ?_))
        | (go_at_call 54; refine HRI.out.mono ?_; rintro e w2 ⟨rfl, hb2⟩))
      have HM2 : Hid (Mod nob w w2) := HM0.out.step (mod_of_below hb2) (fun _ h => h)
      have HB2 : Hid (InoB w2 w.heap.size n ev) := HB.out.mod (mod_of_below hb2) (fun h => h)
      have HS2 : Hid (SheetAt w2 p D S) := HSH.out.mod HM2.out (fun _ _ h => h)
      have HMK := Lib.hid (sheet_mark HS2.out)
      have HGT := Lib.hid (get_ino HS2.out i)
      have hX2 : w.heap.size < w2.heap.size := Nat.lt_of_lt_of_le hBs hb2.size
      have HX2 := Lib.hid hX2
      clear hb2 HRI HRG HIN HM0 HB hBs hX2 hd
      go_upto_region 4 with (go_at_call 32; refine HMK.out.mono ?_; rintro e w' ⟨rfl, rfl⟩)
      obtain ⟨X, hX⟩ : ∃ X, X = w.heap.size := ⟨_, rfl⟩
      rw [← hX] at HB2 HX2 ⊢
      have HXX := Lib.hid hX
      clear hX HMK
      go_cut [9, 10] (fun v9 v10 wc => v10 = .int .i64 (getE S i) ∧ Hid (HoldsN wc v9 (ownI S i)) ∧ Hid (ownI S i ≠ [] → ∀ g, v9.ownBlock = some g → w2.heap.size ≤ g) ∧ Hid (Mod nob w2 wc))
      case first =>
        have HOI : Hid (∀ r, getR S i = some r → ownI S i = r.2) := fun r h => by unfold ownI; rw [h]
        have HON : Hid (getR S i = none → ownI S i = []) := fun h => by unfold ownI; rw [h]
        have HOK := Lib.hid HSH.out.ok
        have HLL : Hid (∀ m xs, getR S i = some (m, xs) → m.bl.length = 13) := fun m xs hr => by
          unfold getR at hr
          rw [if_neg HI.out] at hr
          split at hr
          · cases hr
          · unfold rdI at hr
            split at hr
            · exact (rd2_some HOK.out hr).2.1.len
            · exact (rd1_some HOK.out hr).2.1.len
        generalize getE S i = e0 at *
        cases hgr : getR S i with
        | none =>
          have HOX := Lib.hid (HON.out hgr)
          rw [hgr] at HGT
          have HCALL : Hid (∀ (K : Ending → World → Prop), (∀ w7, Below w2.heap.size w2 w7 → K (.returned (.tuple #[.agg (inoA ino0 (.slice none 0 0)), .slice none 0 0, .int .i64 e0])) w7) → Calls Try.prog 26 #[.pointer (some ⟨p, 0, none⟩), .int .i64 i] w2 K) := fun K hK => HGT.out.mono (fun e w7 h => by obtain ⟨hb, rfl⟩ := h; exact hK w7 hb)
          clear HGT HOI HON HLL hgr
          go_wp2_with fail
          refine HCALL.out _ (fun w7 hb7 => ?_)
          have HB7 := Lib.hid hb7
          clear hb7 HCALL
          have hszA : (inoL ino0 (.slice none 0 0)).toArray.size = 18 := by simp [inoL_len (show ino0.bl.length = 13 from rfl)]
          have HTH7 : Hid ((w7.alloc (.cells z18 25)).there w7.heap.size 0 (inoL ino0 (.slice none 0 0)).toArray.size) := by
            unfold Hid; rw [hszA]; exact ino_there w7 _
          have HISZ : Hid ((Try.prog.info? 25).map (·.size) = some (inoL ino0 (.slice none 0 0)).toArray.size) := by
            unfold Hid; rw [hszA]; exact Try.info18
          have HONE : Hid ((inoL ino0 (.slice none 0 0)).toArray.all (·.oneCell') = true) := all_oneCell_toArray (inoL_one rfl)
          have HROW := Lib.hid (ino_row w7 25 (inoL ino0 (.slice none 0 0)) (inoL_len (show ino0.bl.length = 13 from rfl) _))
          clear hszA
          go_wp2_with (with_reducible refine wpList_store_mid (op := ⟨none, _, _, _, _, _⟩) rfl 25 _ _ rfl w7.heap.size 0 (inoL ino0 (.slice none 0 0)).toArray rfl rfl HTH7.out HISZ.out HONE.out ?_)
          go_meet
          case rel =>
            rw [HOX.out]
            exact ⟨rfl, HoldsN.nil _, fun h => absurd rfl h, (mod_of_below HB7.out).step (mod_of_below HROW.out.2) (fun _ h => h)⟩
        | some rr =>
          obtain ⟨m, xs⟩ := rr
          have HML := Lib.hid (HLL.out m xs hgr)
          have HOX : Hid (ownI S i = xs) := HOI.out _ hgr
          rw [hgr] at HGT
          have HCALL : Hid (∀ (K : Ending → World → Prop), (∀ w7 ev bv, Below w2.heap.size w2 w7 → HoldsE w7 ev m.ents → HoldsN w7 bv xs → (∀ g, bv.ownBlock = some g → w2.heap.size ≤ g) → K (.returned (.tuple #[.agg (inoA m ev), bv, .int .i64 e0])) w7) → Calls Try.prog 26 #[.pointer (some ⟨p, 0, none⟩), .int .i64 i] w2 K) := fun K hK => HGT.out.mono (fun e w7 h => by obtain ⟨hb, ev, bv, rfl, h1, h2, h3, h4⟩ := h; exact hK w7 ev bv hb h1 h2 h4)
          clear HGT HOI HON HLL hgr
          go_wp2_with fail
          refine HCALL.out _ (fun w7 ev7 bv hb7 hmv hxv hgb => ?_)
          have HB7 := Lib.hid hb7
          have HGB := Lib.hid hgb
          have HXV := Lib.hid hxv
          obtain ⟨ma, mc, rfl, -, -, -, -⟩ := hmv
          clear hb7 HCALL hgb hxv
          have hszA : (inoL m (.slice ma m.ents.length mc)).toArray.size = 18 := by simp [inoL_len HML.out]
          have HTH7 : Hid ((w7.alloc (.cells z18 25)).there w7.heap.size 0 (inoL m (.slice ma m.ents.length mc)).toArray.size) := by
            unfold Hid; rw [hszA]; exact ino_there w7 _
          have HISZ : Hid ((Try.prog.info? 25).map (·.size) = some (inoL m (.slice ma m.ents.length mc)).toArray.size) := by
            unfold Hid; rw [hszA]; exact Try.info18
          have HONE : Hid ((inoL m (.slice ma m.ents.length mc)).toArray.all (·.oneCell') = true) := all_oneCell_toArray (inoL_one rfl)
          have HROW := Lib.hid (ino_row w7 25 (inoL m (.slice ma m.ents.length mc)) (inoL_len HML.out _))
          clear hszA
          go_wp2_with (with_reducible refine wpList_store_mid (op := ⟨none, _, _, _, _, _⟩) rfl 25 _ _ rfl w7.heap.size 0 (inoL m (.slice ma m.ents.length mc)).toArray rfl rfl HTH7.out HISZ.out HONE.out ?_)
          go_meet
          case rel =>
            rw [HOX.out]
            exact ⟨rfl, HXV.out.mod (mod_of_below HROW.out.2) (fun _ _ _ h => h), fun _ => HGB.out, (mod_of_below HB7.out).step (mod_of_below HROW.out.2) (fun _ h => h)⟩
      case rest =>
        obtain ⟨rfl, HV, HVB, HMC⟩ := hcut
        have HS3 : Hid (SheetAt wc p D S) := HS2.out.mod HMC.out (fun _ _ h => h)
        have HM3 : Hid (Mod nob w wc) := HM2.out.step HMC.out (fun _ h => h)
        have HB3 : Hid (InoB wc X n ev) := HB2.out.mod HMC.out (fun h => h)
        by_cases h10 : getE S i = 10
        · have hp : putI S i n = (10, S) := by rw [HPI.out, if_pos h10]
          have HP10 := Lib.hid hp
          rw [h10]
          clear hp h10 HPI HGT
          go_wp2_with fail
          go_ret
          rw [HP10.out]
          exact ⟨rfl, ShStep.from HSH.out HM3.out (ShStep.start HS3.out)⟩
        · have hp : putI S i n = if needI n ≤ freeN (giveS S (ownI S i)) then (0, layI (giveS S (ownI S i)) i n) else (7, S) := by rw [HPI.out, if_neg h10]
          obtain ⟨ol1, ol2⟩ := ownI_law HSH.out.ok i
          have hGV := give_any HS3.out (by have := HSL.out; omega) HV.out (fun h0 g hg hd => by have h1 := HVB.out h0 g hg; have h2 := HS2.out.lt g hd; omega) ol1
          have HGV := Lib.hid hGV
          obtain ⟨S1, hS1⟩ : ∃ S1, S1 = giveS S (ownI S i) := ⟨_, rfl⟩
          have hw1 : S1.was.length ≤ S.was.length + 40 := by rw [hS1]; have := giveS_was (ownI S i) S; omega
          have hbk : S1.back (S.was.length : Nat) = S := by rw [hS1]; exact giveS_back _ ol1 S
          rw [← hS1] at hp HGV
          have HP := Lib.hid hp
          have HW1 := Lib.hid hw1
          have HBK := Lib.hid hbk
          have h10b : ((getE S i) == 10) = false := beq_false_of_ne h10
          generalize getE S i = e0 at *
          clear hGV hS1 hp hw1 hbk ol1 ol2 h10 HPI HGT
          go_wp2_with fail
          refine HGV.out.mono ?_
          rintro e w4 ⟨rfl, hk4⟩
          have HK4 := Lib.hid hk4
          have hDX : ¬ D X := fun hd => by have h1 := HSH.out.lt X hd; have h2 := HXX.out; omega
          have HB4 : Hid (InoB w4 X n ev) := HB3.out.mod hk4.2 hDX
          have HE4 : Hid (HoldsE w4 ev n.ents) := (HE.out.mod HM3.out (fun _ _ _ h => h)).mod hk4.2 HED.out
          have HED4 : Hid (n.ents ≠ [] → ∀ g, ev.ownBlock = some g → ¬ grow D wc w4 g) := fun h0 g hg hd => by
            rcases hd with hd | hd
            · exact HED.out h0 g hg hd
            · have h1 := HE.out.lt h0 g hg; have h2 := HM3.out.size; omega
          have HRG4 := Lib.hid (HB4.out.at.range HNO.out.len)
          have c0 := HB4.out.at.c0
          have hfm := HR.out.1
          have HFREE := Lib.hid (rfl : freeN S1 = freeN S1)
          by_cases hf : n.format = 2
          · have hlay : Calls Try.prog 57 #[.pointer (some ⟨p, 0, none⟩), .int .i64 i, .agg (inoL n ev).toArray] w4 fun e w' => e = .returned (.int .i64 (if needI n ≤ freeN S1 then 0 else 7)) ∧ ShStep w4 p (grow D wc w4) w' (if needI n ≤ freeN S1 then layI S1 i n else S1) := by
              have := lay2_ok HK4.out.1 (by have := HSL.out; have := HW1.out; omega) i HI0.out.1 HI0.out.2 HNO.out HE4.out HED4.out HR.out hf
              unfold needI layI
              rw [if_pos hf, if_pos hf]
              exact this
            have HLAY := Lib.hid hlay
            rw [hf] at c0
            clear hlay hf hk4 hDX hfm
            by_cases hfr : needI n ≤ freeN S1
            · have hp := HP.out
              rw [if_pos hfr] at hp
              have HP2 := Lib.hid hp
              have hl := HLAY.out
              rw [if_pos hfr, if_pos hfr] at hl
              have HLAY2 := Lib.hid hl
              clear hp hl HLAY hfr
              go_wp2_with (first
                | (with_reducible refine wpList_load_mid (op := ⟨some 42, _, _, _, _, _⟩) rfl 25 _ rfl X 0 rfl (inoL n ev) _ HRG4.out Try.underlying25 rfl (by rw [HLEN.out]; exact Try.info18) ?_)
                | (go_at_call 57; refine HLAY2.out.mono ?_; rintro e w5 ⟨rfl, hk5⟩)
                | (go_at_call 56; refine HLAY2.out.mono ?_; rintro e w5 ⟨rfl, hk5⟩))
              go_ret
              rw [HP2.out]
              exact ⟨rfl, ShStep.from HSH.out HM3.out (HK4.out.step' hk5)⟩
            · have hp := HP.out
              rw [if_neg hfr] at hp
              have HP2 := Lib.hid hp
              have hl := HLAY.out
              rw [if_neg hfr, if_neg hfr] at hl
              have HLAY2 := Lib.hid hl
              clear hp hl HLAY hfr
              go_upto_region 13 with (first
                | (with_reducible refine wpList_load_mid (op := ⟨some 42, _, _, _, _, _⟩) rfl 25 _ rfl X 0 rfl (inoL n ev) _ HRG4.out Try.underlying25 rfl (by rw [HLEN.out]; exact Try.info18) ?_)
                | (go_at_call 57; refine HLAY2.out.mono ?_; rintro e w5 ⟨rfl, hk5⟩)
                | (go_at_call 56; refine HLAY2.out.mono ?_; rintro e w5 ⟨rfl, hk5⟩))
              have HK5 : Hid (ShStep wc p D w5 S1) := HK4.out.step' hk5
              have hbk := sheet_back HK5.out.1 (by have := HSL.out; have := HW1.out; omega) (S.was.length : Nat)
              rw [HBK.out] at hbk
              have HBKC := Lib.hid hbk
              clear hk5 hbk
              go_wp2_with fail
              refine HBKC.out.mono ?_
              rintro e w6 ⟨rfl, h6, m6⟩
              go_wp2_with fail
              go_ret
              rw [HP2.out]
              refine ⟨rfl, ShStep.from HSH.out HM3.out ⟨?_, ?_⟩⟩
              · refine h6.mono (fun b hb => ?_) (fun b hb => ?_)
                · have h1 := m6.size
                  rcases hb with hb | hb
                  · exact .inl hb
                  · exact .inr ⟨hb.1, by omega⟩
                · have h1 := m6.size
                  rcases hb with hb | hb
                  · have := HS3.out.lt b hb; have := HK5.out.2.size; omega
                  · exact hb.2
              · exact HK5.out.2.trans (m6.mono (fun b _ hb => hb))
          · have hf1 : n.format = 1 := by omega
            have hlay : Calls Try.prog 56 #[.pointer (some ⟨p, 0, none⟩), .int .i64 i, .agg (inoL n ev).toArray] w4 fun e w' => e = .returned (.int .i64 (if needI n ≤ freeN S1 then 0 else 7)) ∧ ShStep w4 p (grow D wc w4) w' (if needI n ≤ freeN S1 then layI S1 i n else S1) := by
              have := lay1_ok HK4.out.1 (by have := HSL.out; have := HW1.out; omega) i HI0.out.1 HI0.out.2 HNO.out HE4.out HED4.out HR.out hf1
              unfold needI layI
              rw [if_neg hf, if_neg hf]
              exact this
            have HLAY := Lib.hid hlay
            rw [hf1] at c0
            clear hlay hf hk4 hDX hfm hf1
            by_cases hfr : needI n ≤ freeN S1
            · have hp := HP.out
              rw [if_pos hfr] at hp
              have HP2 := Lib.hid hp
              have hl := HLAY.out
              rw [if_pos hfr, if_pos hfr] at hl
              have HLAY2 := Lib.hid hl
              clear hp hl HLAY hfr
              go_wp2_with (first
                | (with_reducible refine wpList_load_mid (op := ⟨some 42, _, _, _, _, _⟩) rfl 25 _ rfl X 0 rfl (inoL n ev) _ HRG4.out Try.underlying25 rfl (by rw [HLEN.out]; exact Try.info18) ?_)
                | (go_at_call 57; refine HLAY2.out.mono ?_; rintro e w5 ⟨rfl, hk5⟩)
                | (go_at_call 56; refine HLAY2.out.mono ?_; rintro e w5 ⟨rfl, hk5⟩))
              go_ret
              rw [HP2.out]
              exact ⟨rfl, ShStep.from HSH.out HM3.out (HK4.out.step' hk5)⟩
            · have hp := HP.out
              rw [if_neg hfr] at hp
              have HP2 := Lib.hid hp
              have hl := HLAY.out
              rw [if_neg hfr, if_neg hfr] at hl
              have HLAY2 := Lib.hid hl
              clear hp hl HLAY hfr
              go_upto_region 13 with (first
                | (with_reducible refine wpList_load_mid (op := ⟨some 42, _, _, _, _, _⟩) rfl 25 _ rfl X 0 rfl (inoL n ev) _ HRG4.out Try.underlying25 rfl (by rw [HLEN.out]; exact Try.info18) ?_)
                | (go_at_call 57; refine HLAY2.out.mono ?_; rintro e w5 ⟨rfl, hk5⟩)
                | (go_at_call 56; refine HLAY2.out.mono ?_; rintro e w5 ⟨rfl, hk5⟩))
              have HK5 : Hid (ShStep wc p D w5 S1) := HK4.out.step' hk5
              have hbk := sheet_back HK5.out.1 (by have := HSL.out; have := HW1.out; omega) (S.was.length : Nat)
              rw [HBK.out] at hbk
              have HBKC := Lib.hid hbk
              clear hk5 hbk
              go_wp2_with fail
              refine HBKC.out.mono ?_
              rintro e w6 ⟨rfl, h6, m6⟩
              go_wp2_with fail
              go_ret
              rw [HP2.out]
              refine ⟨rfl, ShStep.from HSH.out HM3.out ⟨?_, ?_⟩⟩
              · refine h6.mono (fun b hb => ?_) (fun b hb => ?_)
                · have h1 := m6.size
                  rcases hb with hb | hb
                  · exact .inl hb
                  · exact .inr ⟨hb.1, by omega⟩
                · have h1 := m6.size
                  rcases hb with hb | hb
                  · have := HS3.out.lt b hb; have := HK5.out.2.size; omega
                  · exact hb.2
              · exact HK5.out.2.trans (m6.mono (fun b _ hb => hb))
end Go.Proofs.Ytlopdbhjdijlmaa
