/-
  imagoref08.Table.Do: a contract. No condition but the inodes' being right, and bounds.
-/
import Derived.Test.YtlopdbhjdijlmaaQTab8
import Derived.Test.YtlopdbhjdijlmaaQRefRight

namespace Go.Proofs.Ytlopdbhjdijlmaa
open Go.ChangeShapes Go.WideShapes Go.ChangeAt Go.RowKit
set_option linter.unusedSimpArgs false
set_option linter.unusedVariables false

def opL (kd i : Int) (n : Ino) (ev : Value) : List Value := .int .u8 kd :: .int .i64 i :: inoL n ev
def nilT : Nat → Value := fun _ => .slice none 0 0
def inoT0 : Nat → Ino := fun _ => ino0
theorem len13_0 : Len13 inoT0 := fun _ _ => rfl
theorem zeroT_eq : Try.zeroCells44 = (tabL inoT0 nilT).toArray := by kernel_rfl
def OpB (w : World) (B : Nat) (kd i : Int) (n : Ino) (ev : Value) : Prop := w.heap[B]? = some (.cells (opL kd i n ev).toArray 46 (0, 0)) ∧ n.bl.length = 13
theorem OpB.mod {w w' : World} {B : Nat} {kd i : Int} {n : Ino} {ev : Value} (h : OpB w B kd i n ev) {D : Nat → Prop} (hm : Mod D w w') (hd : ¬ D B) : OpB w' B kd i n ev := ⟨hm.heap h.1 hd, h.2⟩
theorem OpB.range {w : World} {B : Nat} {kd i : Int} {n : Ino} {ev : Value} (h : OpB w B kd i n ev) : w.rangeAt B 2 (inoL n ev) := by
  intro j u hj
  rw [cell_of_row _ _ _ _ _ _ h.1, show 2 + j = j + 2 by omega]
  simpa [opL] using hj
theorem OpB.c0 {w : World} {B : Nat} {kd i : Int} {n : Ino} {ev : Value} (h : OpB w B kd i n ev) : w.cell? ⟨B, 0, none⟩ = some (.int .u8 kd) := by
  rw [cell_of_row _ _ _ _ _ _ h.1]; rfl
theorem OpB.c1 {w : World} {B : Nat} {kd i : Int} {n : Ino} {ev : Value} (h : OpB w B kd i n ev) : w.cell? ⟨B, 1, none⟩ = some (.int .i64 i) := by
  rw [cell_of_row _ _ _ _ _ _ h.1]; rfl

abbrev TabV := (Nat → Ino) × (Nat → Value) × Int × Int
open Classical in
noncomputable def putT (f : Nat → Ino) (ev : Nat → Value) (j : Int) (n : Ino) (v : Value) (room : Int) : TabV :=
  if j < 0 ∨ 31 < j then (f, ev, 0, 1) else if ¬ RightP n then (f, ev, 0, 1)
  else if room - ((usedT f 32 : Nat) : Int) + ((oldT f j.toNat : Nat) : Int) < ((needI n : Nat) : Int) then (f, ev, 0, 7) else (setT f j.toNat n, setT ev j.toNat v, j, 0)
noncomputable def doT (f : Nat → Ino) (ev : Nat → Value) (kd i : Int) (n : Ino) (v : Value) (room : Int) : TabV :=
  if kd % 3 = 1 then (match firstT f 0 32 with | none => (f, ev, 0, 7) | some k => putT f ev (k : Int) n v room)
  else if kd % 3 = 2 then (if i < 0 ∨ 31 < i then (f, ev, 0, 1) else if (f i.toNat).format = 0 then (f, ev, 0, 2) else (setT f i.toNat ino0, setT ev i.toNat (.slice none 0 0), 0, 0))
  else putT f ev i n v room
def DoPost (w : World) (r : TabV) (e : Ending) (w' : World) : Prop := e = .returned (.tuple #[.agg (tabL r.1 r.2.1).toArray, .int .i64 r.2.2.1, .int .i64 r.2.2.2]) ∧ Below w.heap.size w w'

theorem HoldsT.one {w : World} {f : Nat → Ino} {ev : Nat → Value} (h : HoldsT w f ev) : ∀ i, i < 32 → (ev i).oneCell' = true := fun i hi => by
  obtain ⟨a, c, e, -⟩ := h i hi
  rw [e]; rfl

set_option maxRecDepth 20000 in
set_option maxHeartbeats 8000000 in
theorem do_tab {w : World} {f : Nat → Ino} {ev : Nat → Value} {n : Ino} {v : Value} (hr : RightT f) (he : HoldsT w f ev) (hn : n.Ok) (hv : HoldsE w v n.ents) (kd i room : Int) (hk : 0 ≤ kd ∧ kd < 256) (hro : 0 ≤ room ∧ room ≤ 300) :
    Calls Try.prog 24 #[.agg (tabL f ev).toArray, .agg (opL kd i n v).toArray, .int .i64 room] w (DoPost w (doT f ev kd i n v room)) := by
  have HM0 : Hid (Mod nob w (((w.alloc (.cells (tabL f ev).toArray 44)).alloc (.cells (opL kd i n v).toArray 46)).alloc (.cells Try.zeroCells44 44))) := (((Mod.refl nob w).alloc _).alloc _).alloc _
  have HBEL : Hid (Below w.heap.size w (((w.alloc (.cells (tabL f ev).toArray 44)).alloc (.cells (opL kd i n v).toArray 46)).alloc (.cells Try.zeroCells44 44))) := (((Below.refl _ _).alloc (Nat.le_refl _) _).alloc (by simp) _).alloc (by simp; omega) _
  have HT : Hid (TabB (((w.alloc (.cells (tabL f ev).toArray 44)).alloc (.cells (opL kd i n v).toArray 46)).alloc (.cells Try.zeroCells44 44)) w.heap.size f ev) := (TabB.new hr.len w).mod (((Mod.refl nob _).alloc _).alloc _) (fun h => h)
  have HO : Hid (OpB (((w.alloc (.cells (tabL f ev).toArray 44)).alloc (.cells (opL kd i n v).toArray 46)).alloc (.cells Try.zeroCells44 44)) (w.heap.size + 1) kd i n v) := by
    have h1 := heap_alloc_new (w.alloc (.cells (tabL f ev).toArray 44)) (.cells (opL kd i n v).toArray 46)
    rw [show (w.alloc (.cells (tabL f ev).toArray 44)).heap.size = w.heap.size + 1 by simp] at h1
    exact (show OpB _ _ kd i n v from ⟨h1, hn.len⟩).mod ((Mod.refl nob _).alloc _) (fun h => h)
  have HZ : Hid (TabB (((w.alloc (.cells (tabL f ev).toArray 44)).alloc (.cells (opL kd i n v).toArray 46)).alloc (.cells Try.zeroCells44 44)) (w.heap.size + 2) inoT0 nilT) := by
    rw [zeroT_eq]
    have h1 := heap_alloc_new ((w.alloc (.cells (tabL f ev).toArray 44)).alloc (.cells (opL kd i n v).toArray 46)) (.cells (tabL inoT0 nilT).toArray 44)
    rw [show ((w.alloc (.cells (tabL f ev).toArray 44)).alloc (.cells (opL kd i n v).toArray 46)).heap.size = w.heap.size + 2 by simp] at h1
    exact ⟨h1, len13_0⟩
  have HE := Lib.hid (he.still HM0.out)
  have HV := Lib.hid (hv.mod HM0.out (fun _ _ _ h => h))
  have HR := Lib.hid hr
  have HNO := Lib.hid hn
  have HSL : Hid ((Try.prog.info? 44).map (·.size) = some (tabL f ev).length) := by unfold Hid; rw [tabL_len hr.len]; exact Try.info576
  have HSI : Hid ((Try.prog.info? 25).map (·.size) = some (inoL n v).length) := by unfold Hid; rw [inoL_len hn.len]; exact Try.info18
  have HU44 := Lib.hid Try.underlying44
  have HOV := Lib.hid he.one
  have HV1 : Hid (v.oneCell' = true) := by obtain ⟨a, c, e, -⟩ := hv; unfold Hid; rw [e]; rfl
  obtain ⟨res, hres⟩ : ∃ r, r = doT f ev kd i n v room := ⟨_, rfl⟩
  rw [← hres]
  have HRES := Lib.hid hres
  obtain ⟨k0, k1⟩ := hk
  obtain ⟨ro0, ro1⟩ := hro
  obtain ⟨kq, hkq⟩ : ∃ q, q = kd % 3 := ⟨_, rfl⟩
  have hkq3 : 0 ≤ kq ∧ kq < 3 := by omega
  have htm : Int.tmod kd 3 = kq := by rw [Int.tmod_eq_emod_of_nonneg k0]; exact hkq.symm
  have hkm : kd % 3 = kq := hkq.symm
  have HKQ := Lib.hid hkm
  clear hr he hn hv hres hkq
  go_enter Try.func24, Try.ntmps24
  go_upto_region 1 with (fail)
  generalize ((w.alloc (.cells (tabL f ev).toArray 44)).alloc (.cells (opL kd i n v).toArray 46)).alloc (.cells Try.zeroCells44 44) = w0 at *
  obtain ⟨B, hB⟩ : ∃ B, B = w.heap.size := ⟨_, rfl⟩
  rw [← hB] at HT HO HZ ⊢
  have HBB := Lib.hid hB
  clear hB
  have c0 := HO.out.c0
  have c1 := HO.out.c1
  go_upto_block 0 with (fail)
  go_cut [9] (fun v9 wc => ∃ j : Int, v9 = .int .i64 j ∧ Hid (res = putT f ev j n v room) ∧ Hid (Mod nob w0 wc))
  case first =>
    rcases (show kq = 1 ∨ kq = 2 ∨ kq = 0 by omega) with rfl | rfl | rfl
    · have HFC := Lib.hid (first_tab (w := w0) (ev := ev) HR.out)
      have HALL := Lib.hid HT.out.all
      cases hft : firstT f 0 32 with
      | none =>
        have hrs : res = (f, ev, 0, 7) := by rw [HRES.out]; unfold doT; rw [if_pos HKQ.out, hft]
        have HRS := Lib.hid hrs
        rw [hft] at HFC
        clear hrs hft c0 c1
        go_upto_region 6 with (first
          | (with_reducible refine wpList_load_mid (op := ⟨some 18, _, _, _, _, _⟩) rfl 44 _ rfl B 0 rfl (tabL f ev) _ HALL.out HU44.out rfl HSL.out ?_)
          | (go_at_call 59; refine HFC.out.mono ?_; rintro e w1 ⟨rfl, hb1⟩))
        have HM1 : Hid (Mod nob w0 w1) := mod_of_below hb1
        have HT1 := Lib.hid (HT.out.mod HM1.out (fun h => h))
        have HZ1 := Lib.hid (HZ.out.mod HM1.out (fun h => h))
        have HB1 : Hid (Below w.heap.size w w1) := HBEL.out.trans (HM1.out.below HBEL.out.size (fun b h => h.elim))
        clear hb1
        have HAL := Lib.hid HT1.out.all
        have HTH : Hid (w1.there (B + 2) 0 (tabL (f) (ev)).toArray.size) := by
          unfold Hid; rw [List.size_toArray, tabL_len HR.out.len]; exact HZ1.out.there 0 576 (by omega)
        have HISZ : Hid ((Try.prog.info? 44).map (·.size) = some (tabL (f) (ev)).toArray.size) := by
          unfold Hid; rw [List.size_toArray, tabL_len HR.out.len]; exact Try.info576
        have HISL : Hid ((Try.prog.info? 44).map (·.size) = some (tabL (f) (ev)).length) := by
          unfold Hid; rw [tabL_len HR.out.len]; exact Try.info576
        have HONE : Hid ((tabL (f) (ev)).toArray.all (·.oneCell') = true) := all_oneCell_toArray (tabL_one HOV.out 32 (Nat.le_refl _))
        have HEND := Lib.hid (HZ1.out.whole (eg := ev) HR.out.len)
        have HBE : Hid (Below w.heap.size w (w1.setCells (B + 2) 0 (tabL (f) (ev)))) := HB1.out.trans (Lib.below_setCells_w (by have := HBB.out; omega) _ _ _)
        go_cut [7, 8] (fun v7 v8 wc => v7 = .int .i64 (0) ∧ v8 = .int .i64 7 ∧ Hid (TabB wc (B + 2) (f) (ev)) ∧ Hid (Below w.heap.size w wc))
        case first =>
          go_wp2_with (first
            | (with_reducible refine wpList_load_mid (op := ⟨some 22, _, _, _, _, _⟩) rfl 44 _ rfl B 0 rfl (tabL (f) (ev)) _ HAL.out HU44.out rfl HISL.out ?_)
            | (with_reducible refine wpList_store_mid (op := ⟨none, _, _, _, _, _⟩) rfl 44 _ _ rfl (B + 2) 0 (tabL (f) (ev)).toArray rfl rfl HTH.out HISZ.out HONE.out ?_))
          go_meet
          case rel => exact ⟨rfl, rfl, HEND.out, HBE.out⟩
        case rest =>
          obtain ⟨rfl, rfl, HIA, HBE2⟩ := hcut
          have hlv := run_loadVar_mid (P := Try.prog) wc (B + 2) 0 44 _ _ HIA.out.all HU44.out rfl HISL.out
          have HLV := Lib.hid hlv
          clear hlv
          go_wp2_with fail
          refine bodyPost_ret (v := .tuple #[.agg (tabL (f) (ev)).toArray, .int .i64 (0), .int .i64 7]) ?_ rfl ⟨by rw [HRS.out], HBE2.out⟩
          have hlv := HLV.out
          simp [results, Try.results24, asAddr, hlv]
      | some k =>
        have hrs : res = putT f ev (k : Int) n v room := by rw [HRES.out]; unfold doT; rw [if_pos HKQ.out, hft]
        have HRS := Lib.hid hrs
        rw [hft] at HFC
        have hk0 : (0 : Int) ≤ (k : Int) := Int.natCast_nonneg _
        have HFK : Hid (Calls Try.prog 59 #[.agg (tabL f ev).toArray] w0 fun e w' => e = .returned (.int .i64 (k : Int)) ∧ Below w0.heap.size w0 w') := HFC.out
        clear hrs hft c0 c1 HFC
        go_wp2_with (first
          | (with_reducible refine wpList_load_mid (op := ⟨some 18, _, _, _, _, _⟩) rfl 44 _ rfl B 0 rfl (tabL f ev) _ HALL.out HU44.out rfl HSL.out ?_)
          | (go_at_call 59; refine HFK.out.mono ?_; rintro e w1 ⟨rfl, hb1⟩))
        go_meet
        case rel => exact ⟨(k : Int), rfl, HRS.out, mod_of_below hb1⟩
    · by_cases hout : i < 0 ∨ 31 < i
      · have hrs : res = (f, ev, 0, 1) := by rw [HRES.out]; unfold doT; rw [if_neg (by rw [HKQ.out]; decide), if_pos HKQ.out, if_pos hout]
        have HRS := Lib.hid hrs
        clear hrs c0 c1
        rcases hout with hout | hout
        all_goals
          try have hout2 : ¬ i < 0 := by omega
          go_upto_region 9 with (fail)
          have HAL := Lib.hid HT.out.all
          have HTH : Hid (w0.there (B + 2) 0 (tabL (f) (ev)).toArray.size) := by
            unfold Hid; rw [List.size_toArray, tabL_len HR.out.len]; exact HZ.out.there 0 576 (by omega)
          have HISZ : Hid ((Try.prog.info? 44).map (·.size) = some (tabL (f) (ev)).toArray.size) := by
            unfold Hid; rw [List.size_toArray, tabL_len HR.out.len]; exact Try.info576
          have HISL : Hid ((Try.prog.info? 44).map (·.size) = some (tabL (f) (ev)).length) := by
            unfold Hid; rw [tabL_len HR.out.len]; exact Try.info576
          have HONE : Hid ((tabL (f) (ev)).toArray.all (·.oneCell') = true) := all_oneCell_toArray (tabL_one HOV.out 32 (Nat.le_refl _))
          have HEND := Lib.hid (HZ.out.whole (eg := ev) HR.out.len)
          have HBE : Hid (Below w.heap.size w (w0.setCells (B + 2) 0 (tabL (f) (ev)))) := HBEL.out.trans (Lib.below_setCells_w (by have := HBB.out; omega) _ _ _)
          go_cut [7, 8] (fun v7 v8 wc => v7 = .int .i64 (0) ∧ v8 = .int .i64 1 ∧ Hid (TabB wc (B + 2) (f) (ev)) ∧ Hid (Below w.heap.size w wc))
          case first =>
            go_wp2_with (first
              | (with_reducible refine wpList_load_mid (op := ⟨some 31, _, _, _, _, _⟩) rfl 44 _ rfl B 0 rfl (tabL (f) (ev)) _ HAL.out HU44.out rfl HISL.out ?_)
              | (with_reducible refine wpList_store_mid (op := ⟨none, _, _, _, _, _⟩) rfl 44 _ _ rfl (B + 2) 0 (tabL (f) (ev)).toArray rfl rfl HTH.out HISZ.out HONE.out ?_))
            go_meet
            case rel => exact ⟨rfl, rfl, HEND.out, HBE.out⟩
          case rest =>
            obtain ⟨rfl, rfl, HIA, HBE2⟩ := hcut
            have hlv := run_loadVar_mid (P := Try.prog) wc (B + 2) 0 44 _ _ HIA.out.all HU44.out rfl HISL.out
            have HLV := Lib.hid hlv
            clear hlv
            go_wp2_with fail
            refine bodyPost_ret (v := .tuple #[.agg (tabL (f) (ev)).toArray, .int .i64 (0), .int .i64 1]) ?_ rfl ⟨by rw [HRS.out], HBE2.out⟩
            have hlv := HLV.out
            simp [results, Try.results24, asAddr, hlv]
      · have hout1 : ¬ i < 0 := by omega
        have hout2 : ¬ 31 < i := by omega
        obtain ⟨k, rfl⟩ := Int.eq_ofNat_of_zero_le (show 0 ≤ i by omega)
        have hk32 : k < 32 := by omega
        have cf := HT.out.fmt k hk32
        by_cases h0 : (f k).format = 0
        · have hrs : res = (f, ev, 0, 2) := by rw [HRES.out]; unfold doT; rw [if_neg (by rw [HKQ.out]; decide), if_pos HKQ.out, if_neg hout, Int.toNat_natCast, if_pos h0]
          have HRS := Lib.hid hrs
          rw [h0] at cf
          clear hrs c0 c1 h0 hout
          go_upto_region 11 with (fail)
          clear cf
          have HAL := Lib.hid HT.out.all
          have HTH : Hid (w0.there (B + 2) 0 (tabL (f) (ev)).toArray.size) := by
            unfold Hid; rw [List.size_toArray, tabL_len HR.out.len]; exact HZ.out.there 0 576 (by omega)
          have HISZ : Hid ((Try.prog.info? 44).map (·.size) = some (tabL (f) (ev)).toArray.size) := by
            unfold Hid; rw [List.size_toArray, tabL_len HR.out.len]; exact Try.info576
          have HISL : Hid ((Try.prog.info? 44).map (·.size) = some (tabL (f) (ev)).length) := by
            unfold Hid; rw [tabL_len HR.out.len]; exact Try.info576
          have HONE : Hid ((tabL (f) (ev)).toArray.all (·.oneCell') = true) := all_oneCell_toArray (tabL_one HOV.out 32 (Nat.le_refl _))
          have HEND := Lib.hid (HZ.out.whole (eg := ev) HR.out.len)
          have HBE : Hid (Below w.heap.size w (w0.setCells (B + 2) 0 (tabL (f) (ev)))) := HBEL.out.trans (Lib.below_setCells_w (by have := HBB.out; omega) _ _ _)
          go_cut [7, 8] (fun v7 v8 wc => v7 = .int .i64 (0) ∧ v8 = .int .i64 2 ∧ Hid (TabB wc (B + 2) (f) (ev)) ∧ Hid (Below w.heap.size w wc))
          case first =>
            go_wp2_with (first
              | (with_reducible refine wpList_load_mid (op := ⟨some 37, _, _, _, _, _⟩) rfl 44 _ rfl B 0 rfl (tabL (f) (ev)) _ HAL.out HU44.out rfl HISL.out ?_)
              | (with_reducible refine wpList_store_mid (op := ⟨none, _, _, _, _, _⟩) rfl 44 _ _ rfl (B + 2) 0 (tabL (f) (ev)).toArray rfl rfl HTH.out HISZ.out HONE.out ?_))
            go_meet
            case rel => exact ⟨rfl, rfl, HEND.out, HBE.out⟩
          case rest =>
            obtain ⟨rfl, rfl, HIA, HBE2⟩ := hcut
            have hlv := run_loadVar_mid (P := Try.prog) wc (B + 2) 0 44 _ _ HIA.out.all HU44.out rfl HISL.out
            have HLV := Lib.hid hlv
            clear hlv
            go_wp2_with fail
            refine bodyPost_ret (v := .tuple #[.agg (tabL (f) (ev)).toArray, .int .i64 (0), .int .i64 2]) ?_ rfl ⟨by rw [HRS.out], HBE2.out⟩
            have hlv := HLV.out
            simp [results, Try.results24, asAddr, hlv]
        · have hrs : res = (setT f k ino0, setT ev k (.slice none 0 0), 0, 0) := by rw [HRES.out]; unfold doT; rw [if_neg (by rw [HKQ.out]; decide), if_pos HKQ.out, if_neg hout, Int.toNat_natCast, if_neg h0]
          have HRS := Lib.hid hrs
          have h0b : ((f k).format == 0) = false := beq_false_of_ne h0
          have hfo := HR.out.fmt hk32
          generalize (f k).format = fo at *
          have HTHI : Hid (w0.there B (k * 18) (z18).size) := HT.out.there _ _ (by show k * 18 + 18 ≤ 576; omega)
          have HISZI : Hid ((Try.prog.info? 25).map (·.size) = some (z18).size) := Try.info18
          have HONEI : Hid ((z18).all (·.oneCell') = true) := all_oneCell_toArray (cs := inoL ino0 (.slice none 0 0)) (inoL_one rfl)
          have HTS : Hid (TabB (w0.setCells B (k * 18) (z18).toList) B (setT f k ino0) (setT ev k (.slice none 0 0))) := HT.out.set k hk32 (m := ino0) rfl (.slice none 0 0)
          have HMS : Hid (Mod (fun b => b = B) w0 (w0.setCells B (k * 18) (z18).toList)) := Mod.setCells (D := fun b => b = B) B (.inl rfl) _ _ _ (Mod.refl (fun b => b = B) w0)
          have HZS : Hid (TabB (w0.setCells B (k * 18) (z18).toList) (B + 2) inoT0 nilT) := HZ.out.mod HMS.out (by omega)
          have HBS : Hid (Below w.heap.size w (w0.setCells B (k * 18) (z18).toList)) := HBEL.out.trans (Lib.below_setCells_w (by have := HBB.out; omega) _ _ _)
          have HOS : Hid (∀ j, j < 32 → (setT ev k (.slice none 0 0) j).oneCell' = true) := fun j hj => by
            by_cases e : j = k
            · subst e; rw [setT_same]; rfl
            · rw [setT_ne _ _ e]; exact HOV.out j hj
          clear hrs c0 c1 h0 hout HMS
          go_upto_region 13 with (with_reducible refine wpList_store_mid (op := ⟨none, _, _, _, _, _⟩) rfl 25 _ _ rfl B (k * 18) z18 rfl rfl HTHI.out HISZI.out HONEI.out ?_)
          simp only [Act.put]
          generalize w0.setCells B (k * 18) (z18).toList = w1 at *
          clear cf
          have HAL := Lib.hid HTS.out.all
          have HTH : Hid (w1.there (B + 2) 0 (tabL (setT f k ino0) (setT ev k (.slice none 0 0))).toArray.size) := by
            unfold Hid; rw [List.size_toArray, tabL_len HTS.out.2]; exact HZS.out.there 0 576 (by omega)
          have HISZ : Hid ((Try.prog.info? 44).map (·.size) = some (tabL (setT f k ino0) (setT ev k (.slice none 0 0))).toArray.size) := by
            unfold Hid; rw [List.size_toArray, tabL_len HTS.out.2]; exact Try.info576
          have HISL : Hid ((Try.prog.info? 44).map (·.size) = some (tabL (setT f k ino0) (setT ev k (.slice none 0 0))).length) := by
            unfold Hid; rw [tabL_len HTS.out.2]; exact Try.info576
          have HONE : Hid ((tabL (setT f k ino0) (setT ev k (.slice none 0 0))).toArray.all (·.oneCell') = true) := all_oneCell_toArray (tabL_one HOS.out 32 (Nat.le_refl _))
          have HEND := Lib.hid (HZS.out.whole (eg := setT ev k (.slice none 0 0)) HTS.out.2)
          have HBE : Hid (Below w.heap.size w (w1.setCells (B + 2) 0 (tabL (setT f k ino0) (setT ev k (.slice none 0 0))))) := HBS.out.trans (Lib.below_setCells_w (by have := HBB.out; omega) _ _ _)
          go_cut [7, 8] (fun v7 v8 wc => v7 = .int .i64 (0) ∧ v8 = .int .i64 0 ∧ Hid (TabB wc (B + 2) (setT f k ino0) (setT ev k (.slice none 0 0))) ∧ Hid (Below w.heap.size w wc))
          case first =>
            go_wp2_with (first
              | (with_reducible refine wpList_load_mid (op := ⟨some 41, _, _, _, _, _⟩) rfl 44 _ rfl B 0 rfl (tabL (setT f k ino0) (setT ev k (.slice none 0 0))) _ HAL.out HU44.out rfl HISL.out ?_)
              | (with_reducible refine wpList_store_mid (op := ⟨none, _, _, _, _, _⟩) rfl 44 _ _ rfl (B + 2) 0 (tabL (setT f k ino0) (setT ev k (.slice none 0 0))).toArray rfl rfl HTH.out HISZ.out HONE.out ?_))
            go_meet
            case rel => exact ⟨rfl, rfl, HEND.out, HBE.out⟩
          case rest =>
            obtain ⟨rfl, rfl, HIA, HBE2⟩ := hcut
            have hlv := run_loadVar_mid (P := Try.prog) wc (B + 2) 0 44 _ _ HIA.out.all HU44.out rfl HISL.out
            have HLV := Lib.hid hlv
            clear hlv
            go_wp2_with fail
            refine bodyPost_ret (v := .tuple #[.agg (tabL (setT f k ino0) (setT ev k (.slice none 0 0))).toArray, .int .i64 (0), .int .i64 0]) ?_ rfl ⟨by rw [HRS.out], HBE2.out⟩
            have hlv := HLV.out
            simp [results, Try.results24, asAddr, hlv]
    · have hrs : res = putT f ev i n v room := by rw [HRES.out]; unfold doT; rw [if_neg (by rw [HKQ.out]; decide), if_neg (by rw [HKQ.out]; decide)]
      have HRS := Lib.hid hrs
      clear hrs c0 c1
      go_wp2_with fail
      go_meet
      case rel => exact ⟨i, rfl, HRS.out, Mod.refl _ _⟩
  case rest =>
    obtain ⟨j, rfl, HRS, HM1⟩ := hcut
    obtain ⟨w1, hw1⟩ : ∃ w1 : World, w1 = wc := ⟨_, rfl⟩
    rw [← hw1] at HM1 ⊢
    clear hw1 c0 c1
    have HT1 := Lib.hid (HT.out.mod HM1.out (fun h => h))
    have HZ1 := Lib.hid (HZ.out.mod HM1.out (fun h => h))
    have HO1 := Lib.hid (HO.out.mod HM1.out (fun h => h))
    have HB1 : Hid (Below w.heap.size w w1) := HBEL.out.trans (HM1.out.below HBEL.out.size (fun b h => h.elim))
    by_cases hout : j < 0 ∨ 31 < j
    · have hrs : res = (f, ev, 0, 1) := by rw [HRS.out]; unfold putT; rw [if_pos hout]
      have HRS2 := Lib.hid hrs
      clear hrs
      rcases hout with hout | hout
      all_goals
        try have hout2 : ¬ j < 0 := by omega
        go_upto_region 15 with (fail)
        have HAL := Lib.hid HT1.out.all
        have HTH : Hid (w1.there (B + 2) 0 (tabL (f) (ev)).toArray.size) := by
          unfold Hid; rw [List.size_toArray, tabL_len HR.out.len]; exact HZ1.out.there 0 576 (by omega)
        have HISZ : Hid ((Try.prog.info? 44).map (·.size) = some (tabL (f) (ev)).toArray.size) := by
          unfold Hid; rw [List.size_toArray, tabL_len HR.out.len]; exact Try.info576
        have HISL : Hid ((Try.prog.info? 44).map (·.size) = some (tabL (f) (ev)).length) := by
          unfold Hid; rw [tabL_len HR.out.len]; exact Try.info576
        have HONE : Hid ((tabL (f) (ev)).toArray.all (·.oneCell') = true) := all_oneCell_toArray (tabL_one HOV.out 32 (Nat.le_refl _))
        have HEND := Lib.hid (HZ1.out.whole (eg := ev) HR.out.len)
        have HBE : Hid (Below w.heap.size w (w1.setCells (B + 2) 0 (tabL (f) (ev)))) := HB1.out.trans (Lib.below_setCells_w (by have := HBB.out; omega) _ _ _)
        go_cut [7, 8] (fun v7 v8 wc => v7 = .int .i64 (0) ∧ v8 = .int .i64 1 ∧ Hid (TabB wc (B + 2) (f) (ev)) ∧ Hid (Below w.heap.size w wc))
        case first =>
          go_wp2_with (first
            | (with_reducible refine wpList_load_mid (op := ⟨some 54, _, _, _, _, _⟩) rfl 44 _ rfl B 0 rfl (tabL (f) (ev)) _ HAL.out HU44.out rfl HISL.out ?_)
            | (with_reducible refine wpList_store_mid (op := ⟨none, _, _, _, _, _⟩) rfl 44 _ _ rfl (B + 2) 0 (tabL (f) (ev)).toArray rfl rfl HTH.out HISZ.out HONE.out ?_))
          go_meet
          case rel => exact ⟨rfl, rfl, HEND.out, HBE.out⟩
        case rest =>
          obtain ⟨rfl, rfl, HIA, HBE2⟩ := hcut
          have hlv := run_loadVar_mid (P := Try.prog) wc (B + 2) 0 44 _ _ HIA.out.all HU44.out rfl HISL.out
          have HLV := Lib.hid hlv
          clear hlv
          go_wp2_with fail
          refine bodyPost_ret (v := .tuple #[.agg (tabL (f) (ev)).toArray, .int .i64 (0), .int .i64 1]) ?_ rfl ⟨by rw [HRS2.out], HBE2.out⟩
          have hlv := HLV.out
          simp [results, Try.results24, asAddr, hlv]
    · have hout1 : ¬ j < 0 := by omega
      have hout2 : ¬ 31 < j := by omega
      obtain ⟨k, rfl⟩ := Int.eq_ofNat_of_zero_le (show 0 ≤ j by omega)
      have hk32 : k < 32 := by omega
      have HRO1 := Lib.hid HO1.out.range
      obtain ⟨b, hb⟩ : ∃ b, b = rightB n := ⟨_, rfl⟩
      have HRC : Hid (Calls Try.prog 11 #[.agg (inoL n v).toArray] w1 fun e w' => e = .returned (.bool b) ∧ Below w1.heap.size w1 w') := by
        unfold Hid
        rw [hb]
        exact ref_right HNO.out (HV.out.mod HM1.out (fun _ _ _ h => h))
      have HBR := Lib.hid hb
      clear hb
      by_cases hr : RightP n
      case neg =>
        have hrs : res = (f, ev, 0, 1) := by rw [HRS.out]; unfold putT; rw [if_neg hout, if_pos hr]
        have HRS2 := Lib.hid hrs
        have hbf : b = false := by rw [HBR.out]; exact rightB_false hr
        subst hbf
        clear hrs hr hout
        go_upto_region 15 with (first
          | ((refine wpList_unguard (o := ⟨some 50, _, _, _, _, _⟩) (by rfl) ?_; with_reducible refine wpList_load_mid (op := ⟨some 50, _, _, _, _, _⟩) rfl 25 _ rfl (B + 1) 2 rfl (inoL n v) _ HRO1.out Try.underlying25 rfl HSI.out ?_))
          | (go_at_call 11; refine HRC.out.mono ?_; rintro e w2 ⟨rfl, hb2⟩))
        have HM2 : Hid (Mod nob w1 w2) := mod_of_below hb2
        have HT2 := Lib.hid (HT1.out.mod HM2.out (fun h => h))
        have HZ2 := Lib.hid (HZ1.out.mod HM2.out (fun h => h))
        have HB2 : Hid (Below w.heap.size w w2) := HB1.out.trans (HM2.out.below HB1.out.size (fun b h => h.elim))
        clear hb2
        have HAL := Lib.hid HT2.out.all
        have HTH : Hid (w2.there (B + 2) 0 (tabL (f) (ev)).toArray.size) := by
          unfold Hid; rw [List.size_toArray, tabL_len HR.out.len]; exact HZ2.out.there 0 576 (by omega)
        have HISZ : Hid ((Try.prog.info? 44).map (·.size) = some (tabL (f) (ev)).toArray.size) := by
          unfold Hid; rw [List.size_toArray, tabL_len HR.out.len]; exact Try.info576
        have HISL : Hid ((Try.prog.info? 44).map (·.size) = some (tabL (f) (ev)).length) := by
          unfold Hid; rw [tabL_len HR.out.len]; exact Try.info576
        have HONE : Hid ((tabL (f) (ev)).toArray.all (·.oneCell') = true) := all_oneCell_toArray (tabL_one HOV.out 32 (Nat.le_refl _))
        have HEND := Lib.hid (HZ2.out.whole (eg := ev) HR.out.len)
        have HBE : Hid (Below w.heap.size w (w2.setCells (B + 2) 0 (tabL (f) (ev)))) := HB2.out.trans (Lib.below_setCells_w (by have := HBB.out; omega) _ _ _)
        go_cut [7, 8] (fun v7 v8 wc => v7 = .int .i64 (0) ∧ v8 = .int .i64 1 ∧ Hid (TabB wc (B + 2) (f) (ev)) ∧ Hid (Below w.heap.size w wc))
        case first =>
          go_wp2_with (first
            | (with_reducible refine wpList_load_mid (op := ⟨some 54, _, _, _, _, _⟩) rfl 44 _ rfl B 0 rfl (tabL (f) (ev)) _ HAL.out HU44.out rfl HISL.out ?_)
            | (with_reducible refine wpList_store_mid (op := ⟨none, _, _, _, _, _⟩) rfl 44 _ _ rfl (B + 2) 0 (tabL (f) (ev)).toArray rfl rfl HTH.out HISZ.out HONE.out ?_))
          go_meet
          case rel => exact ⟨rfl, rfl, HEND.out, HBE.out⟩
        case rest =>
          obtain ⟨rfl, rfl, HIA, HBE2⟩ := hcut
          have hlv := run_loadVar_mid (P := Try.prog) wc (B + 2) 0 44 _ _ HIA.out.all HU44.out rfl HISL.out
          have HLV := Lib.hid hlv
          clear hlv
          go_wp2_with fail
          refine bodyPost_ret (v := .tuple #[.agg (tabL (f) (ev)).toArray, .int .i64 (0), .int .i64 1]) ?_ rfl ⟨by rw [HRS2.out], HBE2.out⟩
          have hlv := HLV.out
          simp [results, Try.results24, asAddr, hlv]
      case pos =>
        have hrs : res = if room - ((usedT f 32 : Nat) : Int) + ((oldT f k : Nat) : Int) < ((needI n : Nat) : Int) then (f, ev, 0, 7) else (setT f k n, setT ev k v, (k : Int), 0) := by rw [HRS.out]; unfold putT; rw [if_neg hout, if_neg (fun h => h hr), Int.toNat_natCast]
        have HRS1 := Lib.hid hrs
        have hbf : b = true := by rw [HBR.out]; exact rightB_true hr
        subst hbf
        have HRP := Lib.hid hr
        clear hrs hr hout
        go_upto_region 16 with (first
          | ((refine wpList_unguard (o := ⟨some 50, _, _, _, _, _⟩) (by rfl) ?_; with_reducible refine wpList_load_mid (op := ⟨some 50, _, _, _, _, _⟩) rfl 25 _ rfl (B + 1) 2 rfl (inoL n v) _ HRO1.out Try.underlying25 rfl HSI.out ?_))
          | (go_at_call 11; refine HRC.out.mono ?_; rintro e w2 ⟨rfl, hb2⟩))
        have HM2 : Hid (Mod nob w0 w2) := HM1.out.step (mod_of_below hb2) (fun _ h => h)
        have HT2 := Lib.hid (HT.out.mod HM2.out (fun h => h))
        have cf := HT2.out.fmt k hk32
        have hfo := HR.out.fmt hk32
        have hold : oldT f k = if 0 < (f k).format then needI (f k) else 0 := rfl
        have HOLD := Lib.hid hold
        have HRK := Lib.hid (HT2.out.range k hk32)
        have HSK : Hid ((Try.prog.info? 25).map (·.size) = some (inoL (f k) (ev k)).length) := by unfold Hid; rw [inoL_len (HR.out.len k hk32)]; exact Try.info18
        have HEK : Hid (HoldsE w2 (ev k) (f k).ents) := (HE.out k hk32).mod HM2.out (fun _ _ _ h => h)
        clear hb2 hold HRC HRO1 HT1 HZ1 HO1 HB1
        have hold40 : oldT f k ≤ 40 := by
          rw [HOLD.out]
          split
          · rcases (HR.out k hk32).2 with h1 | h1
            · omega
            · exact needI_le h1
          · omega
        obtain ⟨od, hod⟩ : ∃ o, o = oldT f k := ⟨_, rfl⟩
        rw [← hod] at HOLD HRS1 hold40
        clear hod
        go_upto_if 59 with (fail)
        go_cut [10] (fun v10 wc => v10 = .int .i64 (od : Nat) ∧ Hid (Mod nob w0 wc))
        case first =>
          by_cases h0 : 0 < (f k).format
          · have hrp : RightP (f k) := by rcases (HR.out k hk32).2 with h1 | h1; omega; exact h1
            have ho : od = needI (f k) := by rw [HOLD.out, if_pos h0]
            have HNK := Lib.hid (ref_need8 (HR.out k hk32).1 HEK.out hrp)
            rw [← ho] at HNK
            clear ho hrp
            generalize (f k).format = fo at *
            go_wp2_with (first
              | (with_reducible refine wpList_load_mid (op := ⟨some 62, _, _, _, _, _⟩) rfl 25 _ rfl B (k * 18) rfl (inoL (f k) (ev k)) _ HRK.out Try.underlying25 rfl HSK.out ?_)
              | (go_at_call 29; refine HNK.out.mono ?_; rintro e w3 ⟨rfl, hb3⟩))
            go_meet
            case rel => exact ⟨rfl, HM2.out.step (mod_of_below hb3) (fun _ h => h)⟩
          · have ho : od = 0 := by rw [HOLD.out, if_neg h0]
            generalize (f k).format = fo at *
            go_wp2_with fail
            go_meet
            case rel => exact ⟨by rw [ho]; rfl, HM2.out⟩
        case rest =>
          obtain ⟨rfl, HMC⟩ := hcut
          have HMD : Hid (Mod nob w0 wc.drew) := HMC.out.step ((Mod.refl nob wc).drew) (fun _ h => h)
          have HRO : Hid (wc.drew.rangeAt (B + 1) 2 (inoL n v)) := (HO.out.mod HMD.out (fun h => h)).range
          have HRT : Hid (wc.drew.rangeAt B 0 (tabL f ev)) := (HT.out.mod HMD.out (fun h => h)).all
          have hnd := needI_le HRP.out
          have hul := usedT_le HR.out 32 (Nat.le_refl _)
          obtain ⟨nd, hnd2⟩ : ∃ d, d = needI n := ⟨_, rfl⟩
          obtain ⟨U, hU⟩ : ∃ u, u = usedT f 32 := ⟨_, rfl⟩
          have HNC : Hid (∀ wx, Mod nob wc.drew wx → Calls Try.prog 29 #[.agg (inoL n v).toArray] wx fun e w' => e = .returned (.int .i64 (nd : Nat)) ∧ Below wx.heap.size wx w') := fun wx hm => by
            rw [hnd2]
            exact ref_need8 HNO.out (HV.out.mod (HMD.out.step hm (fun _ h => h)) (fun _ _ _ h => h)) HRP.out
          have HUS : Hid (∀ wx, Mod nob wc.drew wx → Calls Try.prog 25 #[.agg (tabL f ev).toArray] wx fun e w' => e = .returned (.int .i64 (U : Nat)) ∧ Below wx.heap.size wx w') := fun wx hm => by
            rw [hU]
            exact used_tab HR.out (HE.out.still (HMD.out.step hm (fun _ h => h)))
          rw [← hnd2, ← hU] at HRS1
          rw [← hnd2] at hnd
          rw [← hU] at hul
          have HU25 := Lib.hid Try.underlying25
          obtain ⟨AN, hAN⟩ : ∃ a, a = Value.agg (inoL n v).toArray := ⟨_, rfl⟩
          obtain ⟨AT, hAT⟩ : ∃ a, a = Value.agg (tabL f ev).toArray := ⟨_, rfl⟩
          rw [← hAN] at HNC
          rw [← hAT] at HUS
          have HAN := Lib.hid hAN
          have HAT := Lib.hid hAT
          have i1 : IntKind.i64.wrap (room - (U : Nat)) = room - (U : Nat) := by rw [IntKind.wrap_i64]; omega
          have i2 : IntKind.i64.wrap (room - (U : Nat) + (od : Nat)) = room - (U : Nat) + (od : Nat) := by rw [IntKind.wrap_i64]; omega
          clear hAN hAT hnd2 hU cf hfo HT2 HRK HSK HEK HMD HOLD
          go_upto_region 19 with (fail)
          by_cases hroom : room - ((U : Nat) : Int) + ((od : Nat) : Int) < ((nd : Nat) : Int)
          · have HRS2 : Hid (res = (f, ev, 0, 7)) := by unfold Hid; rw [HRS1.out, if_pos hroom]
            refine wp_region_noPanic ?_
            refine wp_region_held_drew (S := fun w' => w'.rangeAt (B + 1) 2 (inoL n v) ∧ w'.rangeAt B 0 (tabL f ev)) (by kernel_rfl) ⟨HRO.out, HRT.out⟩ (fun hHeld => ?_)
            refine wpAnyH_take (i := 0) (v := .pointer (some ⟨B + 1, 2, none⟩)) rfl (by kernel_rfl) (by kernel_rfl) (by kernel_rfl) (fun _ _ _ h => h) (Or.inl ⟨by kernel_rfl, ?_⟩) hHeld ?_
            case refine_1 =>
              rintro wx -
              go_simp
            change wpAnyH _ _ _ _ _ _ _ (Act.put _ (some 64) _) _
            simp only [Act.put, List.setIfInBounds_toArray, List.set_cons_zero, List.set_cons_succ]
            refine wpAnyH_take (i := 1) (oi := ⟨some 65, .load 25 (.tmp 64), 25, _, _, none⟩) (v := AN) rfl (by kernel_rfl) (by kernel_rfl) (by kernel_rfl) (fun _ _ _ h => h) (by rw [HAN.out]; exact yieldsIf_load_mid (by kernel_rfl) 25 (.tmp 64) rfl (B + 1) 2 rfl _ _ (fun _ h => h.1) HU25.out rfl HSI.out) hHeld ?_
            change wpAnyH _ _ _ _ _ _ _ (Act.put _ (some 65) _) _
            simp only [Act.put, List.setIfInBounds_toArray, List.set_cons_zero, List.set_cons_succ]
            refine wpAnyH_take (i := 3) (v := .int .i64 room) rfl (by kernel_rfl) (by kernel_rfl) (by kernel_rfl) (fun _ _ _ h => h) (Or.inl ⟨by kernel_rfl, ?_⟩) hHeld ?_
            case refine_1 =>
              rintro wx -
              go_simp
            change wpAnyH _ _ _ _ _ _ _ (Act.put _ (some 67) _) _
            simp only [Act.put, List.setIfInBounds_toArray, List.set_cons_zero, List.set_cons_succ]
            refine wpAnyH_take (i := 4) (oi := ⟨some 68, .load 44 (.tmp 3), 44, _, _, none⟩) (v := AT) rfl (by kernel_rfl) (by kernel_rfl) (by kernel_rfl) (fun _ _ _ h => h) (by rw [HAT.out]; exact yieldsIf_load_mid (by kernel_rfl) 44 (.tmp 3) rfl B 0 rfl _ _ (fun _ h => h.2) HU44.out rfl HSL.out) hHeld ?_
            change wpAnyH _ _ _ _ _ _ _ (Act.put _ (some 68) _) _
            simp only [Act.put, List.setIfInBounds_toArray, List.set_cons_zero, List.set_cons_succ]
            refine wpAnyH_take (i := 7) (v := .int .i64 (od : Nat)) rfl (by kernel_rfl) (by kernel_rfl) (by kernel_rfl) (fun _ _ _ h => h) (Or.inl ⟨by kernel_rfl, ?_⟩) hHeld ?_
            case refine_1 =>
              rintro wx -
              go_simp
            change wpAnyH _ _ _ _ _ _ _ (Act.put _ (some 71) _) _
            simp only [Act.put, List.setIfInBounds_toArray, List.set_cons_zero, List.set_cons_succ]
            refine wpAnyH_ready (rs := [2]) (by kernel_rfl) (by simp) ?_
            refine AllReadyH.cons rfl (fun K hK => ?_) AllReadyH.nil
            go_simp
            refine (HNC.out _ (Mod.refl nob _)).mono ?_
            rintro e w3 ⟨rfl, hb3⟩
            have HX3 : Hid (Mod nob wc.drew w3) := mod_of_below hb3
            clear hb3
            go_wp2_with fail
            refine hK.out _ _ ⟨fun j v hj => HX3.out.cell (HRO.out j v hj) (fun h => h), fun j v hj => HX3.out.cell (HRT.out j v hj) (fun h => h)⟩ (fun hHeld2 => ?_)
            clear hK K
            try simp only [Act.put, List.setIfInBounds_toArray, List.set_cons_zero, List.set_cons_succ]
            refine wpAnyH_ready (rs := [5]) (by kernel_rfl) (by simp) ?_
            refine AllReadyH.cons rfl (fun K hK => ?_) AllReadyH.nil
            go_simp
            refine (HUS.out _ HX3.out).mono ?_
            rintro e w4 ⟨rfl, hb4⟩
            have HX4 : Hid (Mod nob wc.drew w4) := HX3.out.step (mod_of_below hb4) (fun _ h => h)
            clear hb4
            go_wp2_with fail
            refine hK.out _ _ ⟨fun j v hj => HX4.out.cell (HRO.out j v hj) (fun h => h), fun j v hj => HX4.out.cell (HRT.out j v hj) (fun h => h)⟩ (fun hHeld3 => ?_)
            clear hK K
            try simp only [Act.put, List.setIfInBounds_toArray, List.set_cons_zero, List.set_cons_succ]
            refine wpAnyH_take (i := 6) (v := .int .i64 (room - (U : Nat))) rfl (by kernel_rfl) (by kernel_rfl) (by kernel_rfl) (fun _ _ _ h => h) (Or.inl ⟨by kernel_rfl, ?_⟩) hHeld3 ?_
            case refine_1 =>
              rintro wx -
              go_simp
            change wpAnyH _ _ _ _ _ _ _ (Act.put _ (some 70) _) _
            simp only [Act.put, List.setIfInBounds_toArray, List.set_cons_zero, List.set_cons_succ]
            refine wpAnyH_take (i := 8) (v := .int .i64 (room - (U : Nat) + (od : Nat))) rfl (by kernel_rfl) (by kernel_rfl) (by kernel_rfl) (fun _ _ _ h => h) (Or.inl ⟨by kernel_rfl, ?_⟩) hHeld3 ?_
            case refine_1 =>
              rintro wx -
              go_simp
            change wpAnyH _ _ _ _ _ _ _ (Act.put _ (some 72) _) _
            simp only [Act.put, List.setIfInBounds_toArray, List.set_cons_zero, List.set_cons_succ]
            refine wpAnyH_take (i := 9) (v := .bool true) rfl (by kernel_rfl) (by kernel_rfl) (by kernel_rfl) (fun _ _ _ h => h) (Or.inl ⟨by kernel_rfl, ?_⟩) hHeld3 ?_
            case refine_1 =>
              rintro wx -
              go_simp
            change wpAnyH _ _ _ _ _ _ _ (Act.put _ (some 73) _) _
            simp only [Act.put, List.setIfInBounds_toArray, List.set_cons_zero, List.set_cons_succ]
            refine wpAnyH_done (by kernel_rfl) ?_ _
            refine NoPanic.normal ?_
            clear hHeld hHeld2 hHeld3
            have HM4 : Hid (Mod nob w0 w4) := (HMC.out.step ((Mod.refl nob wc).drew) (fun _ h => h)).step HX4.out (fun _ h => h)
            have HT4 := Lib.hid (HT.out.mod HM4.out (fun h => h))
            have HO4 := Lib.hid (HO.out.mod HM4.out (fun h => h))
            have HZ4 := Lib.hid (HZ.out.mod HM4.out (fun h => h))
            have HB4 : Hid (Below w.heap.size w w4) := HBEL.out.trans (HM4.out.below HBEL.out.size (fun b h => h.elim))
            clear hroom i1 i2
            go_upto_region 20 with (fail)
            have HAL := Lib.hid HT4.out.all
            have HTH : Hid (w4.there (B + 2) 0 (tabL (f) (ev)).toArray.size) := by
              unfold Hid; rw [List.size_toArray, tabL_len HR.out.len]; exact HZ4.out.there 0 576 (by omega)
            have HISZ : Hid ((Try.prog.info? 44).map (·.size) = some (tabL (f) (ev)).toArray.size) := by
              unfold Hid; rw [List.size_toArray, tabL_len HR.out.len]; exact Try.info576
            have HISL : Hid ((Try.prog.info? 44).map (·.size) = some (tabL (f) (ev)).length) := by
              unfold Hid; rw [tabL_len HR.out.len]; exact Try.info576
            have HONE : Hid ((tabL (f) (ev)).toArray.all (·.oneCell') = true) := all_oneCell_toArray (tabL_one HOV.out 32 (Nat.le_refl _))
            have HEND := Lib.hid (HZ4.out.whole (eg := ev) HR.out.len)
            have HBE : Hid (Below w.heap.size w (w4.setCells (B + 2) 0 (tabL (f) (ev)))) := HB4.out.trans (Lib.below_setCells_w (by have := HBB.out; omega) _ _ _)
            go_cut [7, 8] (fun v7 v8 wc => v7 = .int .i64 (0) ∧ v8 = .int .i64 7 ∧ Hid (TabB wc (B + 2) (f) (ev)) ∧ Hid (Below w.heap.size w wc))
            case first =>
              go_wp2_with (first
                | (with_reducible refine wpList_load_mid (op := ⟨some 74, _, _, _, _, _⟩) rfl 44 _ rfl B 0 rfl (tabL (f) (ev)) _ HAL.out HU44.out rfl HISL.out ?_)
                | (with_reducible refine wpList_store_mid (op := ⟨none, _, _, _, _, _⟩) rfl 44 _ _ rfl (B + 2) 0 (tabL (f) (ev)).toArray rfl rfl HTH.out HISZ.out HONE.out ?_))
              go_meet
              case rel => exact ⟨rfl, rfl, HEND.out, HBE.out⟩
            case rest =>
              obtain ⟨rfl, rfl, HIA, HBE2⟩ := hcut
              have hlv := run_loadVar_mid (P := Try.prog) wc (B + 2) 0 44 _ _ HIA.out.all HU44.out rfl HISL.out
              have HLV := Lib.hid hlv
              clear hlv
              go_wp2_with fail
              refine bodyPost_ret (v := .tuple #[.agg (tabL (f) (ev)).toArray, .int .i64 (0), .int .i64 7]) ?_ rfl ⟨by rw [HRS2.out], HBE2.out⟩
              have hlv := HLV.out
              simp [results, Try.results24, asAddr, hlv]
          · have HRS2 : Hid (res = (setT f k n, setT ev k v, (k : Int), 0)) := by unfold Hid; rw [HRS1.out, if_neg hroom]
            have hroom2 : decide (room - ((U : Nat) : Int) + ((od : Nat) : Int) < ((nd : Nat) : Int)) = false := decide_eq_false hroom
            refine wp_region_noPanic ?_
            refine wp_region_held_drew (S := fun w' => w'.rangeAt (B + 1) 2 (inoL n v) ∧ w'.rangeAt B 0 (tabL f ev)) (by kernel_rfl) ⟨HRO.out, HRT.out⟩ (fun hHeld => ?_)
            refine wpAnyH_take (i := 0) (v := .pointer (some ⟨B + 1, 2, none⟩)) rfl (by kernel_rfl) (by kernel_rfl) (by kernel_rfl) (fun _ _ _ h => h) (Or.inl ⟨by kernel_rfl, ?_⟩) hHeld ?_
            case refine_1 =>
              rintro wx -
              go_simp
            change wpAnyH _ _ _ _ _ _ _ (Act.put _ (some 64) _) _
            simp only [Act.put, List.setIfInBounds_toArray, List.set_cons_zero, List.set_cons_succ]
            refine wpAnyH_take (i := 1) (oi := ⟨some 65, .load 25 (.tmp 64), 25, _, _, none⟩) (v := AN) rfl (by kernel_rfl) (by kernel_rfl) (by kernel_rfl) (fun _ _ _ h => h) (by rw [HAN.out]; exact yieldsIf_load_mid (by kernel_rfl) 25 (.tmp 64) rfl (B + 1) 2 rfl _ _ (fun _ h => h.1) HU25.out rfl HSI.out) hHeld ?_
            change wpAnyH _ _ _ _ _ _ _ (Act.put _ (some 65) _) _
            simp only [Act.put, List.setIfInBounds_toArray, List.set_cons_zero, List.set_cons_succ]
            refine wpAnyH_take (i := 3) (v := .int .i64 room) rfl (by kernel_rfl) (by kernel_rfl) (by kernel_rfl) (fun _ _ _ h => h) (Or.inl ⟨by kernel_rfl, ?_⟩) hHeld ?_
            case refine_1 =>
              rintro wx -
              go_simp
            change wpAnyH _ _ _ _ _ _ _ (Act.put _ (some 67) _) _
            simp only [Act.put, List.setIfInBounds_toArray, List.set_cons_zero, List.set_cons_succ]
            refine wpAnyH_take (i := 4) (oi := ⟨some 68, .load 44 (.tmp 3), 44, _, _, none⟩) (v := AT) rfl (by kernel_rfl) (by kernel_rfl) (by kernel_rfl) (fun _ _ _ h => h) (by rw [HAT.out]; exact yieldsIf_load_mid (by kernel_rfl) 44 (.tmp 3) rfl B 0 rfl _ _ (fun _ h => h.2) HU44.out rfl HSL.out) hHeld ?_
            change wpAnyH _ _ _ _ _ _ _ (Act.put _ (some 68) _) _
            simp only [Act.put, List.setIfInBounds_toArray, List.set_cons_zero, List.set_cons_succ]
            refine wpAnyH_take (i := 7) (v := .int .i64 (od : Nat)) rfl (by kernel_rfl) (by kernel_rfl) (by kernel_rfl) (fun _ _ _ h => h) (Or.inl ⟨by kernel_rfl, ?_⟩) hHeld ?_
            case refine_1 =>
              rintro wx -
              go_simp
            change wpAnyH _ _ _ _ _ _ _ (Act.put _ (some 71) _) _
            simp only [Act.put, List.setIfInBounds_toArray, List.set_cons_zero, List.set_cons_succ]
            refine wpAnyH_ready (rs := [2]) (by kernel_rfl) (by simp) ?_
            refine AllReadyH.cons rfl (fun K hK => ?_) AllReadyH.nil
            go_simp
            refine (HNC.out _ (Mod.refl nob _)).mono ?_
            rintro e w3 ⟨rfl, hb3⟩
            have HX3 : Hid (Mod nob wc.drew w3) := mod_of_below hb3
            clear hb3
            go_wp2_with fail
            refine hK.out _ _ ⟨fun j v hj => HX3.out.cell (HRO.out j v hj) (fun h => h), fun j v hj => HX3.out.cell (HRT.out j v hj) (fun h => h)⟩ (fun hHeld2 => ?_)
            clear hK K
            try simp only [Act.put, List.setIfInBounds_toArray, List.set_cons_zero, List.set_cons_succ]
            refine wpAnyH_ready (rs := [5]) (by kernel_rfl) (by simp) ?_
            refine AllReadyH.cons rfl (fun K hK => ?_) AllReadyH.nil
            go_simp
            refine (HUS.out _ HX3.out).mono ?_
            rintro e w4 ⟨rfl, hb4⟩
            have HX4 : Hid (Mod nob wc.drew w4) := HX3.out.step (mod_of_below hb4) (fun _ h => h)
            clear hb4
            go_wp2_with fail
            refine hK.out _ _ ⟨fun j v hj => HX4.out.cell (HRO.out j v hj) (fun h => h), fun j v hj => HX4.out.cell (HRT.out j v hj) (fun h => h)⟩ (fun hHeld3 => ?_)
            clear hK K
            try simp only [Act.put, List.setIfInBounds_toArray, List.set_cons_zero, List.set_cons_succ]
            refine wpAnyH_take (i := 6) (v := .int .i64 (room - (U : Nat))) rfl (by kernel_rfl) (by kernel_rfl) (by kernel_rfl) (fun _ _ _ h => h) (Or.inl ⟨by kernel_rfl, ?_⟩) hHeld3 ?_
            case refine_1 =>
              rintro wx -
              go_simp
            change wpAnyH _ _ _ _ _ _ _ (Act.put _ (some 70) _) _
            simp only [Act.put, List.setIfInBounds_toArray, List.set_cons_zero, List.set_cons_succ]
            refine wpAnyH_take (i := 8) (v := .int .i64 (room - (U : Nat) + (od : Nat))) rfl (by kernel_rfl) (by kernel_rfl) (by kernel_rfl) (fun _ _ _ h => h) (Or.inl ⟨by kernel_rfl, ?_⟩) hHeld3 ?_
            case refine_1 =>
              rintro wx -
              go_simp
            change wpAnyH _ _ _ _ _ _ _ (Act.put _ (some 72) _) _
            simp only [Act.put, List.setIfInBounds_toArray, List.set_cons_zero, List.set_cons_succ]
            refine wpAnyH_take (i := 9) (v := .bool false) rfl (by kernel_rfl) (by kernel_rfl) (by kernel_rfl) (fun _ _ _ h => h) (Or.inl ⟨by kernel_rfl, ?_⟩) hHeld3 ?_
            case refine_1 =>
              rintro wx -
              go_simp
            change wpAnyH _ _ _ _ _ _ _ (Act.put _ (some 73) _) _
            simp only [Act.put, List.setIfInBounds_toArray, List.set_cons_zero, List.set_cons_succ]
            refine wpAnyH_done (by kernel_rfl) ?_ _
            refine NoPanic.normal ?_
            clear hHeld hHeld2 hHeld3
            have HM4 : Hid (Mod nob w0 w4) := (HMC.out.step ((Mod.refl nob wc).drew) (fun _ h => h)).step HX4.out (fun _ h => h)
            have HT4 := Lib.hid (HT.out.mod HM4.out (fun h => h))
            have HO4 := Lib.hid (HO.out.mod HM4.out (fun h => h))
            have HZ4 := Lib.hid (HZ.out.mod HM4.out (fun h => h))
            have HB4 : Hid (Below w.heap.size w w4) := HBEL.out.trans (HM4.out.below HBEL.out.size (fun b h => h.elim))
            have HRO4 := Lib.hid HO4.out.range
            have hsz : (inoL n v).toArray.size = 18 := by simp [inoL_len HNO.out.len]
            have HTHI : Hid (w4.there B (k * 18) (inoL n v).toArray.size) := by unfold Hid; rw [hsz]; exact HT4.out.there _ _ (by omega)
            have HISZI : Hid ((Try.prog.info? 25).map (·.size) = some (inoL n v).toArray.size) := by unfold Hid; rw [hsz]; exact Try.info18
            have HONEI : Hid ((inoL n v).toArray.all (·.oneCell') = true) := all_oneCell_toArray (inoL_one HV1.out)
            have HTS : Hid (TabB (w4.setCells B (k * 18) (inoL n v)) B (setT f k n) (setT ev k v)) := HT4.out.set k hk32 HNO.out.len v
            have HMS : Hid (Mod (fun b => b = B) w4 (w4.setCells B (k * 18) (inoL n v))) := Mod.setCells (D := fun b => b = B) B (.inl rfl) _ _ _ (Mod.refl (fun b => b = B) w4)
            have HZS : Hid (TabB (w4.setCells B (k * 18) (inoL n v)) (B + 2) inoT0 nilT) := HZ4.out.mod HMS.out (by omega)
            have HBS : Hid (Below w.heap.size w (w4.setCells B (k * 18) (inoL n v))) := HB4.out.trans (Lib.below_setCells_w (by have := HBB.out; omega) _ _ _)
            have HOS : Hid (∀ j, j < 32 → (setT ev k v j).oneCell' = true) := fun j hj => by
              by_cases e : j = k
              · subst e; rw [setT_same]; exact HV1.out
              · rw [setT_ne _ _ e]; exact HOV.out j hj
            clear hroom hroom2 i1 i2 HMS hsz
            go_upto_region 22 with (first
              | (with_reducible refine wpList_load_mid (op := ⟨some 77, _, _, _, _, _⟩) rfl 25 _ rfl (B + 1) 2 rfl (inoL n v) _ HRO4.out HU25.out rfl HSI.out ?_)
              | (with_reducible refine wpList_store_mid (op := ⟨none, _, _, _, _, _⟩) rfl 25 _ _ rfl B (k * 18) (inoL n v).toArray rfl rfl HTHI.out HISZI.out HONEI.out ?_))
            simp only [Act.put]
            generalize w4.setCells B (k * 18) (inoL n v) = w5 at *
            have HAL := Lib.hid HTS.out.all
            have HTH : Hid (w5.there (B + 2) 0 (tabL (setT f k n) (setT ev k v)).toArray.size) := by
              unfold Hid; rw [List.size_toArray, tabL_len HTS.out.2]; exact HZS.out.there 0 576 (by omega)
            have HISZ : Hid ((Try.prog.info? 44).map (·.size) = some (tabL (setT f k n) (setT ev k v)).toArray.size) := by
              unfold Hid; rw [List.size_toArray, tabL_len HTS.out.2]; exact Try.info576
            have HISL : Hid ((Try.prog.info? 44).map (·.size) = some (tabL (setT f k n) (setT ev k v)).length) := by
              unfold Hid; rw [tabL_len HTS.out.2]; exact Try.info576
            have HONE : Hid ((tabL (setT f k n) (setT ev k v)).toArray.all (·.oneCell') = true) := all_oneCell_toArray (tabL_one HOS.out 32 (Nat.le_refl _))
            have HEND := Lib.hid (HZS.out.whole (eg := setT ev k v) HTS.out.2)
            have HBE : Hid (Below w.heap.size w (w5.setCells (B + 2) 0 (tabL (setT f k n) (setT ev k v)))) := HBS.out.trans (Lib.below_setCells_w (by have := HBB.out; omega) _ _ _)
            go_cut [7, 8] (fun v7 v8 wc => v7 = .int .i64 ((k : Int)) ∧ v8 = .int .i64 0 ∧ Hid (TabB wc (B + 2) (setT f k n) (setT ev k v)) ∧ Hid (Below w.heap.size w wc))
            case first =>
              go_wp2_with (first
                | (with_reducible refine wpList_load_mid (op := ⟨some 79, _, _, _, _, _⟩) rfl 44 _ rfl B 0 rfl (tabL (setT f k n) (setT ev k v)) _ HAL.out HU44.out rfl HISL.out ?_)
                | (with_reducible refine wpList_store_mid (op := ⟨none, _, _, _, _, _⟩) rfl 44 _ _ rfl (B + 2) 0 (tabL (setT f k n) (setT ev k v)).toArray rfl rfl HTH.out HISZ.out HONE.out ?_))
              go_meet
              case rel => exact ⟨rfl, rfl, HEND.out, HBE.out⟩
            case rest =>
              obtain ⟨rfl, rfl, HIA, HBE2⟩ := hcut
              have hlv := run_loadVar_mid (P := Try.prog) wc (B + 2) 0 44 _ _ HIA.out.all HU44.out rfl HISL.out
              have HLV := Lib.hid hlv
              clear hlv
              go_wp2_with fail
              refine bodyPost_ret (v := .tuple #[.agg (tabL (setT f k n) (setT ev k v)).toArray, .int .i64 ((k : Int)), .int .i64 0]) ?_ rfl ⟨by rw [HRS2.out], HBE2.out⟩
              have hlv := HLV.out
              simp [results, Try.results24, asAddr, hlv]
end Go.Proofs.Ytlopdbhjdijlmaa
