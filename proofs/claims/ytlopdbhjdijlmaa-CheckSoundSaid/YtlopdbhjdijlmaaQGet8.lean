/-
  inode.Get: a contract. No condition but the sheet.
-/
import Derived.Test.YtlopdbhjdijlmaaQFree8
import Derived.Test.YtlopdbhjdijlmaaQRd1Some
import Derived.Test.YtlopdbhjdijlmaaQPutGet2
import Derived.Test.YtlopdbhjdijlmaaQRd1
import Derived.Test.YtlopdbhjdijlmaaQRd2

namespace Go.Proofs.Ytlopdbhjdijlmaa
open Go.ChangeShapes Go.WideShapes Go.ChangeAt Go.RowKit
set_option linter.unusedSimpArgs false
set_option linter.unusedVariables false

set_option maxRecDepth 20000 in
set_option maxHeartbeats 8000000 in
theorem get_ino {w : World} {p : Nat} {D : Nat → Prop} {S : Sh} (h : SheetAt w p D S) (i : Int) :
    Calls Try.prog 26 #[.pointer (some ⟨p, 0, none⟩), .int .i64 i] w (GetPost w (getR S i) (getE S i)) := by
  have HOK := Lib.hid h.ok
  have HI0 : Hid (InoB (w.alloc (.cells z18 25)) w.heap.size ino0 (.slice none 0 0)) := inoB_lit0 (heap_alloc_new _ _)
  have HM0 : Hid (Mod nob w (w.alloc (.cells z18 25))) := (Mod.refl nob w).alloc _
  have HSH : Hid (SheetAt (w.alloc (.cells z18 25)) p D S) := h.mod HM0.out (fun _ _ h => h)
  have HONE0 : Hid ((z18).all (·.oneCell') = true) := all_oneCell_toArray (cs := inoL ino0 (.slice none 0 0)) (inoL_one rfl)
  have HISZ0 : Hid ((Try.prog.info? 25).map (·.size) = some (z18).size) := Try.info18
  have HIN := Lib.hid (inode_any i (w.alloc (.cells z18 25)))
  have HFR := Lib.hid (ino_free HSH.out i)
  have HZ0 : Hid ((w.alloc (.cells z18 25)).heap.size = w.heap.size + 1) := by unfold Hid; simp
  clear h
  by_cases hi : i < 0 ∨ 32 ≤ i
  · have hr : getR S i = none := by unfold getR; rw [if_pos hi]
    have he : getE S i = 1 := by unfold getE; rw [if_pos hi]
    rw [hr, he]
    have HIN2 := HIN
    unfold Hid at HIN2
    rw [if_pos hi] at HIN2
    have HIN3 := Lib.hid HIN2
    clear HIN HIN2 hr hi he HFR
    go_enter Try.func26, Try.ntmps26
    go_wp2_with fail
    generalize w.alloc (.cells z18 25) = w0 at *
    refine HIN3.out.mono ?_
    rintro e w1 ⟨rfl, rfl⟩
    go_upto_region 3 with (fail)
    have HTH : Hid (w0.there w.heap.size 0 (z18).size) := HI0.out.there
    have HI1 := Lib.hid (HI0.out.whole (m := ino0) (ev' := .slice none 0 0) rfl)
    go_cut [5, 6, 17] (fun v5 v6 _ wc => v5 = .slice none 0 0 ∧ v6 = .int .i64 1 ∧ Hid (InoB wc w.heap.size ino0 (.slice none 0 0)) ∧ Hid (Below w.heap.size w wc))
    case first =>
      go_wp2_with (with_reducible refine wpList_store_mid (op := ⟨none, _, _, _, _, _⟩) rfl 25 _ _ rfl w.heap.size 0 z18 rfl rfl HTH.out HISZ0.out HONE0.out ?_)
      go_meet
      case rel => exact ⟨rfl, rfl, HI1.out, (nob_mod_below HM0.out).trans (Lib.below_setCells_w (Nat.le_refl _) _ _ _)⟩
    case rest =>
      obtain ⟨rfl, rfl, HIA, HBE⟩ := hcut
      have hlv := run_loadVar_mid (P := Try.prog) wc w.heap.size 0 25 _ _ (HIA.out.at.range rfl) Try.underlying25 rfl (by rw [inoL_len rfl]; exact Try.info18)
      have HLV := Lib.hid hlv
      clear hlv
      go_wp2_with fail
      refine bodyPost_ret (v := .tuple #[.agg (inoL ino0 (.slice none 0 0)).toArray, .slice none 0 0, .int .i64 1]) ?_ rfl ⟨HBE.out, rfl⟩
      have hlv := HLV.out
      simp [results, Try.results26, asAddr, hlv]
  · obtain ⟨at_, hat⟩ : ∃ at_ : Nat, at_ = (824 + i * 8).toNat := ⟨_, rfl⟩
    have hati : 824 + i * 8 = (at_ : Int) := by omega
    have ha : at_ ≤ 1072 := by omega
    have HIN2 := HIN
    unfold Hid at HIN2
    rw [if_neg hi, hati] at HIN2
    have HIN3 := Lib.hid HIN2
    have ha0 : (0 : Int) ≤ (at_ : Int) := Int.natCast_nonneg _
    have HHI := Lib.hid hi
    cases hfr : freeI S i with
    | true =>
      have hr : getR S i = none := by unfold getR; rw [if_neg hi, if_pos hfr]
      have he : getE S i = 2 := by unfold getE; rw [if_neg hi, if_pos hfr]
      rw [hr, he]
      rw [hfr] at HFR
      clear HIN HIN2 hr hi he hfr hat hati
      go_enter Try.func26, Try.ntmps26
      go_wp2_with fail
      generalize w.alloc (.cells z18 25) = w0 at *
      refine HIN3.out.mono ?_
      rintro e w1 ⟨rfl, rfl⟩
      go_upto_region 5 with (go_at_call 27; refine HFR.out.mono ?_; rintro e w' ⟨rfl, rfl⟩)
      have HTH : Hid (w0.there w.heap.size 0 (z18).size) := HI0.out.there
      have HI1 := Lib.hid (HI0.out.whole (m := ino0) (ev' := .slice none 0 0) rfl)
      go_cut [5, 6, 22] (fun v5 v6 _ wc => v5 = .slice none 0 0 ∧ v6 = .int .i64 2 ∧ Hid (InoB wc w.heap.size ino0 (.slice none 0 0)) ∧ Hid (Below w.heap.size w wc))
      case first =>
        go_wp2_with (with_reducible refine wpList_store_mid (op := ⟨none, _, _, _, _, _⟩) rfl 25 _ _ rfl w.heap.size 0 z18 rfl rfl HTH.out HISZ0.out HONE0.out ?_)
        go_meet
        case rel => exact ⟨rfl, rfl, HI1.out, (nob_mod_below HM0.out).trans (Lib.below_setCells_w (Nat.le_refl _) _ _ _)⟩
      case rest =>
        obtain ⟨rfl, rfl, HIA, HBE⟩ := hcut
        have hlv := run_loadVar_mid (P := Try.prog) wc w.heap.size 0 25 _ _ (HIA.out.at.range rfl) Try.underlying25 rfl (by rw [inoL_len rfl]; exact Try.info18)
        have HLV := Lib.hid hlv
        clear hlv
        go_wp2_with fail
        refine bodyPost_ret (v := .tuple #[.agg (inoL ino0 (.slice none 0 0)).toArray, .slice none 0 0, .int .i64 2]) ?_ rfl ⟨HBE.out, rfl⟩
        have hlv := HLV.out
        simp [results, Try.results26, asAddr, hlv]
    | false =>
      have hr : getR S i = rdI S i := by unfold getR; rw [if_neg hi, if_neg (by rw [hfr]; decide)]
      have he : getE S i = match rdI S i with | none => 10 | some _ => 0 := by unfold getE; rw [if_neg hi, if_neg (by rw [hfr]; decide)]; cases rdI S i <;> rfl
      rw [hr, he]
      rw [hfr] at HFR
      have hx := HOK.out.get (at_ : Int)
      have HGX : Hid (Calls Try.prog 37 #[.pointer (some ⟨p, 0, none⟩), .int .i64 (at_ : Int)] (w.alloc (.cells z18 25)) fun e w' => e = .returned (.int .u64 (S.get (at_ : Int))) ∧ (w.alloc (.cells z18 25)) = w') := sheet_get HSH.out (at_ : Int)
      obtain ⟨x, hxx⟩ : ∃ x, x = S.get (at_ : Int) := ⟨_, rfl⟩
      have HR1 := Lib.hid (rd1_any HSH.out i)
      have HR2 := Lib.hid (rd2_any HSH.out i)
      have hrd : rdI S i = if x % 256 = 2 then rd2 S i else rd1 S i := by unfold rdI; rw [hati, hxx]
      rw [← hxx] at hx HGX
      have hm8 := u64_mask8 x hx.1 hx.2
      obtain ⟨r, hrr⟩ : ∃ r, r = rdI S i := ⟨_, rfl⟩
      have HF2 : Hid (x % 256 = 2 → r = rd2 S i) := fun h => by rw [hrr, hrd, if_pos h]
      have HF1 : Hid (¬ x % 256 = 2 → r = rd1 S i) := fun h => by rw [hrr, hrd, if_neg h]
      rw [← hrr]
      obtain ⟨x0, x1⟩ := hx
      clear HIN HIN2 hr hi he hfr hat hati hxx hrd hrr
      go_enter Try.func26, Try.ntmps26
      go_wp2_with fail
      generalize w.alloc (.cells z18 25) = w0 at *
      refine HIN3.out.mono ?_
      rintro e w1 ⟨rfl, rfl⟩
      by_cases hf : x % 256 = 2
      · have HRD : Hid (Calls Try.prog 61 #[.pointer (some ⟨p, 0, none⟩), .int .i64 i] w0 (RdPost w0 r)) := by
          unfold Hid
          rw [HF2.out hf]
          exact HR2.out
        have HMR : Hid (∀ m xs, r = some (m, xs) → m.bl.length = 13) := fun m xs h => by rw [HF2.out hf] at h; exact (rd2_some HOK.out h).2.1.len
        clear HF1 HF2 HR1 HR2
        go_upto_region 9 with (first
          | (go_at_call 27; refine HFR.out.mono ?_; rintro e w' ⟨rfl, rfl⟩)
          | (go_at_call 37; refine HGX.out.mono ?_; rintro e w' ⟨rfl, rfl⟩))
        clear hm8 hf HGX HFR HIN3 x0 x1
        cases r with
        | none =>
          have HCALL : Hid (∀ (K : Ending → World → Prop), (∀ w7, Below w0.heap.size w0 w7 → K (.returned (.tuple #[.agg (inoA ino0 (.slice none 0 0)), .slice none 0 0, .bool false])) w7) → Calls Try.prog 61 #[.pointer (some ⟨p, 0, none⟩), .int .i64 i] w0 K) := fun K hK => HRD.out.mono (fun e w7 h => by obtain ⟨hb, rfl⟩ := h; exact hK w7 hb)
          clear HRD
          go_wp2_with fail
          refine HCALL.out _ (fun w7 hb7 => ?_)
          have HB7 := Lib.hid hb7
          clear hb7 HCALL
          have hszA : (inoL ino0 (.slice none 0 0)).toArray.size = 18 := by simp [inoL_len (show ino0.bl.length = 13 from rfl)]
          have HTH7 : Hid ((w7.alloc (.cells z18 25)).there w7.heap.size 0 (inoL ino0 (.slice none 0 0)).toArray.size) := by
            unfold Hid; rw [hszA]; exact ino_there w7 _
          have HISZ : Hid ((Try.prog.info? 25).map (·.size) = some (inoL ino0 (.slice none 0 0)).toArray.size) := by
            unfold Hid; rw [hszA]; exact Try.info18
          have HONE : Hid ((inoL ino0 (.slice none 0 0)).toArray.all (·.oneCell') = true) := all_oneCell_toArray (inoL_one rfl)
          have HROW := Lib.hid (ino_row w7 25 (inoL ino0 (.slice none 0 0)) (inoL_len (show ino0.bl.length = 13 from rfl) _))
          clear hszA
          go_upto_region 11 with (with_reducible refine wpList_store_mid (op := ⟨none, _, _, _, _, _⟩) rfl 25 _ _ rfl w7.heap.size 0 (inoL ino0 (.slice none 0 0)).toArray rfl rfl HTH7.out HISZ.out HONE.out ?_)
          have HMX : Hid (Mod nob w7 ((w7.alloc (.cells z18 25)).setCells w7.heap.size 0 (inoL ino0 (.slice none 0 0)))) := mod_of_below HROW.out.2
          clear HROW HTH7 HISZ HONE
          generalize (w7.alloc (.cells z18 25)).setCells w7.heap.size 0 (inoL ino0 (.slice none 0 0)) = w8 at *
          have HMZ : Hid (Mod nob w0 w8) := (mod_of_below HB7.out).step HMX.out (fun _ h => h)
          have HIZ := Lib.hid (HI0.out.mod HMZ.out (fun h => h))
          have HBW : Hid (Below w.heap.size w w8) := (nob_mod_below HM0.out).trans (HMZ.out.below (by have := HZ0.out; omega) (fun b h => h.elim))
          have HTH : Hid (w8.there w.heap.size 0 (z18).size) := HIZ.out.there
          have HI1 := Lib.hid (HIZ.out.whole (m := ino0) (ev' := .slice none 0 0) rfl)
          go_cut [5, 6, 38] (fun v5 v6 _ wc => v5 = .slice none 0 0 ∧ v6 = .int .i64 10 ∧ Hid (InoB wc w.heap.size ino0 (.slice none 0 0)) ∧ Hid (Below w.heap.size w wc))
          case first =>
            go_wp2_with (with_reducible refine wpList_store_mid (op := ⟨none, _, _, _, _, _⟩) rfl 25 _ _ rfl w.heap.size 0 z18 rfl rfl HTH.out HISZ0.out HONE0.out ?_)
            go_meet
            case rel => exact ⟨rfl, rfl, HI1.out, HBW.out.trans (Lib.below_setCells_w (Nat.le_refl _) _ _ _)⟩
          case rest =>
            obtain ⟨rfl, rfl, HIA, HBE⟩ := hcut
            have hlv := run_loadVar_mid (P := Try.prog) wc w.heap.size 0 25 _ _ (HIA.out.at.range rfl) Try.underlying25 rfl (by rw [inoL_len rfl]; exact Try.info18)
            have HLV := Lib.hid hlv
            clear hlv
            go_wp2_with fail
            refine bodyPost_ret (v := .tuple #[.agg (inoL ino0 (.slice none 0 0)).toArray, .slice none 0 0, .int .i64 10]) ?_ rfl ⟨HBE.out, rfl⟩
            have hlv := HLV.out
            simp [results, Try.results26, asAddr, hlv]
        | some rr =>
          obtain ⟨m, xs⟩ := rr
          have HML : Hid (m.bl.length = 13) := HMR.out m xs rfl
          clear HMR
          have HCALL : Hid (∀ (K : Ending → World → Prop), (∀ w7 ev bv, Below w0.heap.size w0 w7 → m.bl.length = 13 → HoldsE w7 ev m.ents → HoldsN w7 bv xs → (∀ g, ev.ownBlock = some g → w0.heap.size ≤ g) → (∀ g, bv.ownBlock = some g → w0.heap.size ≤ g) → K (.returned (.tuple #[.agg (inoA m ev), bv, .bool true])) w7) → Calls Try.prog 61 #[.pointer (some ⟨p, 0, none⟩), .int .i64 i] w0 K) := fun K hK => HRD.out.mono (fun e w7 h => by obtain ⟨hb, ev, bv, rfl, h1, h2, h3, h4⟩ := h; exact hK w7 ev bv hb HML.out h1 h2 h3 h4)
          clear HRD
          go_wp2_with fail
          refine HCALL.out _ (fun w7 ev bv hb7 hml hmv hxv hge hgb => ?_)
          have HB7 := Lib.hid hb7
          have HML2 := Lib.hid hml
          have HGE := Lib.hid hge
          have HGB := Lib.hid hgb
          have HMV := Lib.hid hmv
          have HXV := Lib.hid hxv
          obtain ⟨ma, mc, rfl, -, -, -, -⟩ := hmv
          obtain ⟨xa, xc, rfl, x1, x2, -, -⟩ := hxv
          unfold maxLen at x2
          clear hb7 HCALL hml hge hgb HML
          have hszA : (inoL m (.slice ma m.ents.length mc)).toArray.size = 18 := by simp [inoL_len HML2.out]
          have HTH7 : Hid ((w7.alloc (.cells z18 25)).there w7.heap.size 0 (inoL m (.slice ma m.ents.length mc)).toArray.size) := by
            unfold Hid; rw [hszA]; exact ino_there w7 _
          have HISZ : Hid ((Try.prog.info? 25).map (·.size) = some (inoL m (.slice ma m.ents.length mc)).toArray.size) := by
            unfold Hid; rw [hszA]; exact Try.info18
          have HISL : Hid ((Try.prog.info? 25).map (·.size) = some (inoL m (.slice ma m.ents.length mc)).length) := by
            unfold Hid; rw [inoL_len HML2.out]; exact Try.info18
          have HONE : Hid ((inoL m (.slice ma m.ents.length mc)).toArray.all (·.oneCell') = true) := all_oneCell_toArray (inoL_one rfl)
          have HROW := Lib.hid (ino_row w7 25 (inoL m (.slice ma m.ents.length mc)) (inoL_len HML2.out _))
          clear hszA
          go_upto_region 12 with (with_reducible refine wpList_store_mid (op := ⟨none, _, _, _, _, _⟩) rfl 25 _ _ rfl w7.heap.size 0 (inoL m (.slice ma m.ents.length mc)).toArray rfl rfl HTH7.out HISZ.out HONE.out ?_)
          have HIX : Hid (InoB ((w7.alloc (.cells z18 25)).setCells w7.heap.size 0 (inoL m (.slice ma m.ents.length mc))) w7.heap.size m (.slice ma m.ents.length mc)) := ⟨HROW.out.1, HML2.out⟩
          have HMX : Hid (Mod nob w7 ((w7.alloc (.cells z18 25)).setCells w7.heap.size 0 (inoL m (.slice ma m.ents.length mc)))) := mod_of_below HROW.out.2
          clear HROW HTH7
          generalize (w7.alloc (.cells z18 25)).setCells w7.heap.size 0 (inoL m (.slice ma m.ents.length mc)) = w8 at *
          have HXB : Hid (w.heap.size < w7.heap.size) := by have h1 := HB7.out.size; have h2 := HZ0.out; unfold Hid; omega
          obtain ⟨X, hX⟩ : ∃ X, X = w7.heap.size := ⟨_, rfl⟩
          rw [← hX] at HIX HXB ⊢
          clear hX
          have HMZ : Hid (Mod nob w0 w8) := (mod_of_below HB7.out).step HMX.out (fun _ h => h)
          have HIZ := Lib.hid (HI0.out.mod HMZ.out (fun h => h))
          have HBW : Hid (Below w.heap.size w w8) := (nob_mod_below HM0.out).trans (HMZ.out.below (by have := HZ0.out; omega) (fun b h => h.elim))
          have HTH : Hid (w8.there w.heap.size 0 (inoL m (.slice ma m.ents.length mc)).toArray.size) := by
            have := HIZ.out.there
            unfold Hid
            rw [show (inoL m (.slice ma m.ents.length mc)).toArray.size = 18 by simp [inoL_len HML2.out]]
            exact this
          have HI1 := Lib.hid (HIZ.out.whole (m := m) (ev' := .slice ma m.ents.length mc) HML2.out)
          have HRG := Lib.hid (HIX.out.at.range HML2.out)
          have HEND : Hid (Mod (fun b => b = w.heap.size) w8 (w8.setCells w.heap.size 0 (inoL m (.slice ma m.ents.length mc)))) := Mod.setCells (D := fun b => b = w.heap.size) w.heap.size (.inl rfl) _ _ _ (Mod.refl (fun b => b = w.heap.size) w8)
          have HE1 : Hid (HoldsE (w8.setCells w.heap.size 0 (inoL m (.slice ma m.ents.length mc))) (.slice ma m.ents.length mc) m.ents) := (HMV.out.mod HMX.out (fun _ _ _ h => h)).mod HEND.out (fun _ g hg => by have := HGE.out g hg; have := HZ0.out; omega)
          have HN1 : Hid (HoldsN (w8.setCells w.heap.size 0 (inoL m (.slice ma m.ents.length mc))) (.slice xa xs.length xc) xs) := (HXV.out.mod HMX.out (fun _ _ _ h => h)).mod HEND.out (fun _ g hg => by have := HGB.out g hg; have := HZ0.out; omega)
          go_cut [5, 6, 39, 40] (fun v5 v6 _ _ wc => v5 = .slice xa xs.length xc ∧ v6 = .int .i64 0 ∧ Hid (InoB wc w.heap.size m (.slice ma m.ents.length mc)) ∧ Hid (Below w.heap.size w wc) ∧ Hid (HoldsE wc (.slice ma m.ents.length mc) m.ents) ∧ Hid (HoldsN wc (.slice xa xs.length xc) xs))
          case first =>
            go_wp2_with (first
              | (with_reducible refine wpList_load_mid (op := ⟨some 39, _, _, _, _, _⟩) rfl 25 _ rfl X 0 rfl (inoL m (.slice ma m.ents.length mc)) _ HRG.out Try.underlying25 rfl HISL.out ?_)
              | (with_reducible refine wpList_store_mid (op := ⟨none, _, _, _, _, _⟩) rfl 25 _ _ rfl w.heap.size 0 (inoL m (.slice ma m.ents.length mc)).toArray rfl rfl HTH.out HISZ.out HONE.out ?_))
            go_meet
            case rel => exact ⟨rfl, rfl, HI1.out, HBW.out.trans (Lib.below_setCells_w (Nat.le_refl _) _ _ _), HE1.out, HN1.out⟩
          case rest =>
            obtain ⟨rfl, rfl, HIA, HBE, HE2, HN2⟩ := hcut
            have hlv := run_loadVar_mid (P := Try.prog) wc w.heap.size 0 25 _ _ (HIA.out.at.range HML2.out) Try.underlying25 rfl HISL.out
            have HLV := Lib.hid hlv
            clear hlv
            go_wp2_with fail
            refine bodyPost_ret (v := .tuple #[.agg (inoL m (.slice ma m.ents.length mc)).toArray, .slice xa xs.length xc, .int .i64 0]) ?_ rfl ⟨HBE.out, _, _, rfl, HE2.out, HN2.out, fun g hg => by have := HGE.out g hg; have := HZ0.out; omega, fun g hg => by have := HGB.out g hg; have := HZ0.out; omega⟩
            have hlv := HLV.out
            simp [results, Try.results26, asAddr, hlv]
      · have HRD : Hid (Calls Try.prog 60 #[.pointer (some ⟨p, 0, none⟩), .int .i64 i] w0 (RdPost w0 r)) := by
          unfold Hid
          rw [HF1.out hf]
          exact HR1.out
        have HMR : Hid (∀ m xs, r = some (m, xs) → m.bl.length = 13) := fun m xs h => by rw [HF1.out hf] at h; exact (rd1_some HOK.out h).2.1.len
        clear HF1 HF2 HR1 HR2
        go_upto_region 9 with (first
          | (go_at_call 27; refine HFR.out.mono ?_; rintro e w' ⟨rfl, rfl⟩)
          | (go_at_call 37; refine HGX.out.mono ?_; rintro e w' ⟨rfl, rfl⟩))
        clear hm8 hf HGX HFR HIN3 x0 x1
        cases r with
        | none =>
          have HCALL : Hid (∀ (K : Ending → World → Prop), (∀ w7, Below w0.heap.size w0 w7 → K (.returned (.tuple #[.agg (inoA ino0 (.slice none 0 0)), .slice none 0 0, .bool false])) w7) → Calls Try.prog 60 #[.pointer (some ⟨p, 0, none⟩), .int .i64 i] w0 K) := fun K hK => HRD.out.mono (fun e w7 h => by obtain ⟨hb, rfl⟩ := h; exact hK w7 hb)
          clear HRD
          go_wp2_with fail
          refine HCALL.out _ (fun w7 hb7 => ?_)
          have HB7 := Lib.hid hb7
          clear hb7 HCALL
          have hszA : (inoL ino0 (.slice none 0 0)).toArray.size = 18 := by simp [inoL_len (show ino0.bl.length = 13 from rfl)]
          have HTH7 : Hid ((w7.alloc (.cells z18 25)).there w7.heap.size 0 (inoL ino0 (.slice none 0 0)).toArray.size) := by
            unfold Hid; rw [hszA]; exact ino_there w7 _
          have HISZ : Hid ((Try.prog.info? 25).map (·.size) = some (inoL ino0 (.slice none 0 0)).toArray.size) := by
            unfold Hid; rw [hszA]; exact Try.info18
          have HONE : Hid ((inoL ino0 (.slice none 0 0)).toArray.all (·.oneCell') = true) := all_oneCell_toArray (inoL_one rfl)
          have HROW := Lib.hid (ino_row w7 25 (inoL ino0 (.slice none 0 0)) (inoL_len (show ino0.bl.length = 13 from rfl) _))
          clear hszA
          go_upto_region 11 with (with_reducible refine wpList_store_mid (op := ⟨none, _, _, _, _, _⟩) rfl 25 _ _ rfl w7.heap.size 0 (inoL ino0 (.slice none 0 0)).toArray rfl rfl HTH7.out HISZ.out HONE.out ?_)
          have HMX : Hid (Mod nob w7 ((w7.alloc (.cells z18 25)).setCells w7.heap.size 0 (inoL ino0 (.slice none 0 0)))) := mod_of_below HROW.out.2
          clear HROW HTH7 HISZ HONE
          generalize (w7.alloc (.cells z18 25)).setCells w7.heap.size 0 (inoL ino0 (.slice none 0 0)) = w8 at *
          have HMZ : Hid (Mod nob w0 w8) := (mod_of_below HB7.out).step HMX.out (fun _ h => h)
          have HIZ := Lib.hid (HI0.out.mod HMZ.out (fun h => h))
          have HBW : Hid (Below w.heap.size w w8) := (nob_mod_below HM0.out).trans (HMZ.out.below (by have := HZ0.out; omega) (fun b h => h.elim))
          have HTH : Hid (w8.there w.heap.size 0 (z18).size) := HIZ.out.there
          have HI1 := Lib.hid (HIZ.out.whole (m := ino0) (ev' := .slice none 0 0) rfl)
          go_cut [5, 6, 38] (fun v5 v6 _ wc => v5 = .slice none 0 0 ∧ v6 = .int .i64 10 ∧ Hid (InoB wc w.heap.size ino0 (.slice none 0 0)) ∧ Hid (Below w.heap.size w wc))
          case first =>
            go_wp2_with (with_reducible refine wpList_store_mid (op := ⟨none, _, _, _, _, _⟩) rfl 25 _ _ rfl w.heap.size 0 z18 rfl rfl HTH.out HISZ0.out HONE0.out ?_)
            go_meet
            case rel => exact ⟨rfl, rfl, HI1.out, HBW.out.trans (Lib.below_setCells_w (Nat.le_refl _) _ _ _)⟩
          case rest =>
            obtain ⟨rfl, rfl, HIA, HBE⟩ := hcut
            have hlv := run_loadVar_mid (P := Try.prog) wc w.heap.size 0 25 _ _ (HIA.out.at.range rfl) Try.underlying25 rfl (by rw [inoL_len rfl]; exact Try.info18)
            have HLV := Lib.hid hlv
            clear hlv
            go_wp2_with fail
            refine bodyPost_ret (v := .tuple #[.agg (inoL ino0 (.slice none 0 0)).toArray, .slice none 0 0, .int .i64 10]) ?_ rfl ⟨HBE.out, rfl⟩
            have hlv := HLV.out
            simp [results, Try.results26, asAddr, hlv]
        | some rr =>
          obtain ⟨m, xs⟩ := rr
          have HML : Hid (m.bl.length = 13) := HMR.out m xs rfl
          clear HMR
          have HCALL : Hid (∀ (K : Ending → World → Prop), (∀ w7 ev bv, Below w0.heap.size w0 w7 → m.bl.length = 13 → HoldsE w7 ev m.ents → HoldsN w7 bv xs → (∀ g, ev.ownBlock = some g → w0.heap.size ≤ g) → (∀ g, bv.ownBlock = some g → w0.heap.size ≤ g) → K (.returned (.tuple #[.agg (inoA m ev), bv, .bool true])) w7) → Calls Try.prog 60 #[.pointer (some ⟨p, 0, none⟩), .int .i64 i] w0 K) := fun K hK => HRD.out.mono (fun e w7 h => by obtain ⟨hb, ev, bv, rfl, h1, h2, h3, h4⟩ := h; exact hK w7 ev bv hb HML.out h1 h2 h3 h4)
          clear HRD
          go_wp2_with fail
          refine HCALL.out _ (fun w7 ev bv hb7 hml hmv hxv hge hgb => ?_)
          have HB7 := Lib.hid hb7
          have HML2 := Lib.hid hml
          have HGE := Lib.hid hge
          have HGB := Lib.hid hgb
          have HMV := Lib.hid hmv
          have HXV := Lib.hid hxv
          obtain ⟨ma, mc, rfl, -, -, -, -⟩ := hmv
          obtain ⟨xa, xc, rfl, x1, x2, -, -⟩ := hxv
          unfold maxLen at x2
          clear hb7 HCALL hml hge hgb HML
          have hszA : (inoL m (.slice ma m.ents.length mc)).toArray.size = 18 := by simp [inoL_len HML2.out]
          have HTH7 : Hid ((w7.alloc (.cells z18 25)).there w7.heap.size 0 (inoL m (.slice ma m.ents.length mc)).toArray.size) := by
            unfold Hid; rw [hszA]; exact ino_there w7 _
          have HISZ : Hid ((Try.prog.info? 25).map (·.size) = some (inoL m (.slice ma m.ents.length mc)).toArray.size) := by
            unfold Hid; rw [hszA]; exact Try.info18
          have HISL : Hid ((Try.prog.info? 25).map (·.size) = some (inoL m (.slice ma m.ents.length mc)).length) := by
            unfold Hid; rw [inoL_len HML2.out]; exact Try.info18
          have HONE : Hid ((inoL m (.slice ma m.ents.length mc)).toArray.all (·.oneCell') = true) := all_oneCell_toArray (inoL_one rfl)
          have HROW := Lib.hid (ino_row w7 25 (inoL m (.slice ma m.ents.length mc)) (inoL_len HML2.out _))
          clear hszA
          go_upto_region 12 with (with_reducible refine wpList_store_mid (op := ⟨none, _, _, _, _, _⟩) rfl 25 _ _ rfl w7.heap.size 0 (inoL m (.slice ma m.ents.length mc)).toArray rfl rfl HTH7.out HISZ.out HONE.out ?_)
          have HIX : Hid (InoB ((w7.alloc (.cells z18 25)).setCells w7.heap.size 0 (inoL m (.slice ma m.ents.length mc))) w7.heap.size m (.slice ma m.ents.length mc)) := ⟨HROW.out.1, HML2.out⟩
          have HMX : Hid (Mod nob w7 ((w7.alloc (.cells z18 25)).setCells w7.heap.size 0 (inoL m (.slice ma m.ents.length mc)))) := mod_of_below HROW.out.2
          clear HROW HTH7
          generalize (w7.alloc (.cells z18 25)).setCells w7.heap.size 0 (inoL m (.slice ma m.ents.length mc)) = w8 at *
          have HXB : Hid (w.heap.size < w7.heap.size) := by have h1 := HB7.out.size; have h2 := HZ0.out; unfold Hid; omega
          obtain ⟨X, hX⟩ : ∃ X, X = w7.heap.size := ⟨_, rfl⟩
          rw [← hX] at HIX HXB ⊢
          clear hX
          have HMZ : Hid (Mod nob w0 w8) := (mod_of_below HB7.out).step HMX.out (fun _ h => h)
          have HIZ := Lib.hid (HI0.out.mod HMZ.out (fun h => h))
          have HBW : Hid (Below w.heap.size w w8) := (nob_mod_below HM0.out).trans (HMZ.out.below (by have := HZ0.out; omega) (fun b h => h.elim))
          have HTH : Hid (w8.there w.heap.size 0 (inoL m (.slice ma m.ents.length mc)).toArray.size) := by
            have := HIZ.out.there
            unfold Hid
            rw [show (inoL m (.slice ma m.ents.length mc)).toArray.size = 18 by simp [inoL_len HML2.out]]
            exact this
          have HI1 := Lib.hid (HIZ.out.whole (m := m) (ev' := .slice ma m.ents.length mc) HML2.out)
          have HRG := Lib.hid (HIX.out.at.range HML2.out)
          have HEND : Hid (Mod (fun b => b = w.heap.size) w8 (w8.setCells w.heap.size 0 (inoL m (.slice ma m.ents.length mc)))) := Mod.setCells (D := fun b => b = w.heap.size) w.heap.size (.inl rfl) _ _ _ (Mod.refl (fun b => b = w.heap.size) w8)
          have HE1 : Hid (HoldsE (w8.setCells w.heap.size 0 (inoL m (.slice ma m.ents.length mc))) (.slice ma m.ents.length mc) m.ents) := (HMV.out.mod HMX.out (fun _ _ _ h => h)).mod HEND.out (fun _ g hg => by have := HGE.out g hg; have := HZ0.out; omega)
          have HN1 : Hid (HoldsN (w8.setCells w.heap.size 0 (inoL m (.slice ma m.ents.length mc))) (.slice xa xs.length xc) xs) := (HXV.out.mod HMX.out (fun _ _ _ h => h)).mod HEND.out (fun _ g hg => by have := HGB.out g hg; have := HZ0.out; omega)
          go_cut [5, 6, 39, 40] (fun v5 v6 _ _ wc => v5 = .slice xa xs.length xc ∧ v6 = .int .i64 0 ∧ Hid (InoB wc w.heap.size m (.slice ma m.ents.length mc)) ∧ Hid (Below w.heap.size w wc) ∧ Hid (HoldsE wc (.slice ma m.ents.length mc) m.ents) ∧ Hid (HoldsN wc (.slice xa xs.length xc) xs))
          case first =>
            go_wp2_with (first
              | (with_reducible refine wpList_load_mid (op := ⟨some 39, _, _, _, _, _⟩) rfl 25 _ rfl X 0 rfl (inoL m (.slice ma m.ents.length mc)) _ HRG.out Try.underlying25 rfl HISL.out ?_)
              | (with_reducible refine wpList_store_mid (op := ⟨none, _, _, _, _, _⟩) rfl 25 _ _ rfl w.heap.size 0 (inoL m (.slice ma m.ents.length mc)).toArray rfl rfl HTH.out HISZ.out HONE.out ?_))
            go_meet
            case rel => exact ⟨rfl, rfl, HI1.out, HBW.out.trans (Lib.below_setCells_w (Nat.le_refl _) _ _ _), HE1.out, HN1.out⟩
          case rest =>
            obtain ⟨rfl, rfl, HIA, HBE, HE2, HN2⟩ := hcut
            have hlv := run_loadVar_mid (P := Try.prog) wc w.heap.size 0 25 _ _ (HIA.out.at.range HML2.out) Try.underlying25 rfl HISL.out
            have HLV := Lib.hid hlv
            clear hlv
            go_wp2_with fail
            refine bodyPost_ret (v := .tuple #[.agg (inoL m (.slice ma m.ents.length mc)).toArray, .slice xa xs.length xc, .int .i64 0]) ?_ rfl ⟨HBE.out, _, _, rfl, HE2.out, HN2.out, fun g hg => by have := HGE.out g hg; have := HZ0.out; omega, fun g hg => by have := HGB.out g hg; have := HZ0.out; omega⟩
            have hlv := HLV.out
            simp [results, Try.results26, asAddr, hlv]
end Go.Proofs.Ytlopdbhjdijlmaa
