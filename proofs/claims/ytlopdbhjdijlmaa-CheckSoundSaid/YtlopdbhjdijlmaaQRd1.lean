/-
  What fmt1.Read answers: a contract. No condition but the sheet.
-/
import Derived.Test.YtlopdbhjdijlmaaQRd1M
import Derived.Test.YtlopdbhjdijlmaaQRead1

namespace Go.Proofs.Ytlopdbhjdijlmaa
open Go.ChangeShapes Go.WideShapes Go.ChangeAt Go.RowKit
set_option linter.unusedSimpArgs false
set_option linter.unusedVariables false

/-- Where the two kinds meet. -/
structure RdMid (w wc : World) (B : Nat) (S : Sh) (at_ li : Int) (r : Option (Ino × List Nat)) (m : Ino) (ev v10 : Value) (own : List Nat) : Prop where
  ino : InoB wc B m ev
  z : InoB wc w.heap.size ino0 (.slice none 0 0)
  he : HoldsE wc ev m.ents
  hv : HoldsN wc v10 own
  mod : Mod nob w wc
  ef : ∀ g, ev.ownBlock = some g → w.heap.size < g
  vf : ∀ g, v10.ownBlock = some g → w.heap.size < g
  ok : m.Ok
  lt : ∀ b ∈ own, b < 256
  len : own.length ≤ 24
  res : r = finR S at_ m own li
  need : RightP m → own.length = need1 m

theorem RdMid.mod' {w wc w' : World} {B : Nat} {S : Sh} {at_ li : Int} {r : Option (Ino × List Nat)} {m : Ino} {ev v10 : Value} {own : List Nat} (h : RdMid w wc B S at_ li r m ev v10 own) (hm : Mod nob wc w') : RdMid w w' B S at_ li r m ev v10 own :=
  ⟨h.ino.mod hm (fun h => h), h.z.mod hm (fun h => h), h.he.mod hm (fun _ _ _ h => h), h.hv.mod hm (fun _ _ _ h => h), h.mod.step hm (fun _ h => h), h.ef, h.vf, h.ok, h.lt, h.len, h.res, h.need⟩

set_option maxRecDepth 20000 in
set_option maxHeartbeats 8000000 in
theorem rd1_any {w : World} {p : Nat} {D : Nat → Prop} {S : Sh} (h : SheetAt w p D S) (i : Int) :
    Calls Try.prog 60 #[.pointer (some ⟨p, 0, none⟩), .int .i64 i] w (RdPost w (rd1 S i)) := by
  have HSH := Lib.hid h
  have HOK := Lib.hid h.ok
  have HI0 : Hid (InoB (w.alloc (.cells z18 25)) w.heap.size ino0 (.slice none 0 0)) := inoB_lit0 (heap_alloc_new _ _)
  have HM0 : Hid (Mod nob w (w.alloc (.cells z18 25))) := (Mod.refl nob w).alloc _
  have HONE0 : Hid ((z18).all (·.oneCell') = true) := all_oneCell_toArray (cs := inoL ino0 (.slice none 0 0)) (inoL_one rfl)
  have HISZ0 : Hid ((Try.prog.info? 25).map (·.size) = some (z18).size) := Try.info18
  have HIN := Lib.hid (inode_any i (w.alloc (.cells z18 25)))
  clear h
  by_cases hi : i < 0 ∨ 32 ≤ i
  · have hr : rd1 S i = none := by unfold rd1; rw [if_pos hi]
    rw [hr]
    have HIN2 := HIN
    unfold Hid at HIN2
    rw [if_pos hi] at HIN2
    have HIN3 := Lib.hid HIN2
    clear HIN HIN2 hr hi
    go_enter Try.func60, Try.ntmps60
    go_wp2_with fail
    generalize w.alloc (.cells z18 25) = w0 at *
    refine HIN3.out.mono ?_
    rintro e w1 ⟨rfl, rfl⟩
    go_upto_region 3 with (fail)
    have HTH : Hid (w0.there w.heap.size 0 (z18).size) := HI0.out.there
    have HI1 := Lib.hid (HI0.out.whole (m := ino0) (ev' := .slice none 0 0) rfl)
    go_cut [5, 6, 19] (fun v5 v6 _ wc => v5 = .slice none 0 0 ∧ v6 = .bool false ∧ Hid (InoB wc w.heap.size ino0 (.slice none 0 0)) ∧ Hid (Below w.heap.size w wc))
    case first =>
      go_wp2_with (with_reducible refine wpList_store_mid (op := ⟨none, _, _, _, _, _⟩) rfl 25 _ _ rfl w.heap.size 0 z18 rfl rfl HTH.out HISZ0.out HONE0.out ?_)
      go_meet
      case rel => exact ⟨rfl, rfl, HI1.out, (nob_mod_below HM0.out).trans (Lib.below_setCells_w (Nat.le_refl _) _ _ _)⟩
    case rest =>
      obtain ⟨rfl, rfl, HIA, HBE⟩ := hcut
      have hlv := run_loadVar_mid (P := Try.prog) wc w.heap.size 0 25 _ _ (HIA.out.at.range rfl) Try.underlying25 rfl (by rw [inoL_len rfl]; exact Try.info18)
      have HLV := Lib.hid hlv
      clear hlv
      go_wp2_with fail
      refine bodyPost_ret (v := .tuple #[.agg (inoL ino0 (.slice none 0 0)).toArray, .slice none 0 0, .bool false]) ?_ rfl ⟨HBE.out, rfl⟩
      have hlv := HLV.out
      simp [results, Try.results60, asAddr, hlv]
  · have hat : ∃ at_, at_ = 824 + i * 8 := ⟨_, rfl⟩
    obtain ⟨at_, hat⟩ := hat
    have ha : 0 ≤ at_ ∧ at_ ≤ 3000 := by omega
    have hr : rd1 S i = rdAt S at_ := by unfold rd1; rw [if_neg hi, hat]
    have HIN2 := HIN
    unfold Hid at HIN2
    rw [if_neg hi, ← hat] at HIN2
    have HIN3 := Lib.hid HIN2
    have hread := read_any (HSH.out.mod HM0.out (fun _ _ h => h)) at_ ha
    obtain ⟨n, hn⟩ : ∃ n, n = readN S at_ := ⟨_, rfl⟩
    obtain ⟨li, hli⟩ : ∃ li, li = readL S at_ := ⟨_, rfl⟩
    have hlr := readL_range HOK.out at_
    have hno := readN_ok HOK.out at_
    have hnb := readN_bl HOK.out at_
    have hns := readN_size HOK.out at_
    unfold rdAt at hr
    rw [← hn] at hr hread hno hnb hns
    rw [← hli] at hr hlr hread
    have hne : n.ents = [] := by rw [hn]; rfl
    have HREAD := Lib.hid hread
    have HNO := Lib.hid hno
    have HNB := Lib.hid hnb
    have HNS := Lib.hid hns
    have HNE := Lib.hid hne
    have HRR := Lib.hid hr
    obtain ⟨a0, a1⟩ := ha
    obtain ⟨l0, l1⟩ := hlr
    clear HIN HIN2 hr hi hat hread hn hli hno hnb hns hne
    go_enter Try.func60, Try.ntmps60
    go_wp2_with fail
    generalize w.alloc (.cells z18 25) = w0 at *
    refine HIN3.out.mono ?_
    rintro e w1 ⟨rfl, rfl⟩
    go_wp2_with fail
    refine HREAD.out.mono ?_
    rintro e w1 ⟨rfl, hb1⟩
    have HM01 : Hid (Mod nob w0 w1) := mod_of_below hb1
    have HM1 : Hid (Mod nob w w1) := HM0.out.step (mod_of_below hb1) (fun _ h => h)
    have HTH8 : Hid ((w1.alloc (.cells z18 25)).there w1.heap.size 0 (inoL n (.slice none 0 0)).toArray.size) := by
      unfold Hid
      rw [show (inoL n (.slice none 0 0)).toArray.size = 18 by simp [inoL_len HNO.out.len]]
      exact ino_there w1 _
    have HONE8 : Hid ((inoL n (.slice none 0 0)).toArray.all (·.oneCell') = true) := all_oneCell_toArray (inoL_one rfl)
    have HISZ8 : Hid ((Try.prog.info? 25).map (·.size) = some (inoL n (.slice none 0 0)).toArray.size) := by
      unfold Hid
      rw [show (inoL n (.slice none 0 0)).toArray.size = 18 by simp [inoL_len HNO.out.len]]
      exact Try.info18
    have HROW := Lib.hid (ino_row w1 25 (inoL n (.slice none 0 0)) (inoL_len HNO.out.len _))
    obtain ⟨B, hB⟩ : ∃ B, B = w1.heap.size := ⟨_, rfl⟩
    rw [← hB] at HTH8 HROW
    have HBB := Lib.hid hB
    have HBG : Hid (w.heap.size < B) := by
      unfold Hid
      have h1 := HI0.out.lt
      have h2 := hb1.size
      omega
    clear hb1
    go_upto_region 5 with (with_reducible refine wpList_store_mid (op := ⟨none, _, _, _, _, _⟩) rfl 25 _ _ rfl w1.heap.size 0 (inoL n (.slice none 0 0)).toArray rfl rfl (hB ▸ HTH8.out) HISZ8.out HONE8.out ?_)
    rw [← hB]
    have HI2 : Hid (InoB ((w1.alloc (.cells z18 25)).setCells B 0 (inoL n (.slice none 0 0))) B n (.slice none 0 0)) := ⟨HROW.out.1, HNO.out.len⟩
    have HM12 : Hid (Mod nob w1 ((w1.alloc (.cells z18 25)).setCells B 0 (inoL n (.slice none 0 0)))) := mod_of_below (by rw [← hB]; exact HROW.out.2)
    clear hB HROW HTH8 HONE8 HISZ8
    generalize (w1.alloc (.cells z18 25)).setCells B 0 (inoL n (.slice none 0 0)) = w2 at *
    have HM2 : Hid (Mod nob w w2) := HM1.out.step HM12.out (fun _ h => h)
    have HZ2 : Hid (InoB w2 w.heap.size ino0 (.slice none 0 0)) := (HI0.out.mod HM01.out (fun h => h)).mod HM12.out (fun h => h)
    have c0 := HI2.out.at.c0
    obtain ⟨f, hf⟩ : ∃ f, f = n.format := ⟨_, rfl⟩
    rw [← hf] at c0
    have HF := Lib.hid hf
    by_cases hbad : li < 0 ∨ f ≠ 1
    · have hres : rd1 S i = none := by rw [HRR.out, if_pos (by rw [← HF.out]; exact hbad)]
      have HRES := Lib.hid hres
      clear hres
      by_cases h1 : li < 0
      · clear hbad hf
        go_upto_region 6 with (fail)
        have HTH : Hid (w2.there w.heap.size 0 (z18).size) := HZ2.out.there
        have HI1 := Lib.hid (HZ2.out.whole (m := ino0) (ev' := .slice none 0 0) rfl)
        go_cut [5, 6, 33] (fun v5 v6 _ wc => v5 = .slice none 0 0 ∧ v6 = .bool false ∧ Hid (InoB wc w.heap.size ino0 (.slice none 0 0)) ∧ Hid (Below w.heap.size w wc))
        case first =>
          go_wp2_with (with_reducible refine wpList_store_mid (op := ⟨none, _, _, _, _, _⟩) rfl 25 _ _ rfl w.heap.size 0 z18 rfl rfl HTH.out HISZ0.out HONE0.out ?_)
          go_meet
          case rel => exact ⟨rfl, rfl, HI1.out, (nob_mod_below HM2.out).trans (Lib.below_setCells_w (Nat.le_refl _) _ _ _)⟩
        case rest =>
          obtain ⟨rfl, rfl, HIA, HBE⟩ := hcut
          have hlv := run_loadVar_mid (P := Try.prog) wc w.heap.size 0 25 _ _ (HIA.out.at.range rfl) Try.underlying25 rfl (by rw [inoL_len rfl]; exact Try.info18)
          have HLV := Lib.hid hlv
          clear hlv
          go_wp2_with fail
          rw [HRES.out]
          refine bodyPost_ret (v := .tuple #[.agg (inoL ino0 (.slice none 0 0)).toArray, .slice none 0 0, .bool false]) ?_ rfl ⟨HBE.out, rfl⟩
          have hlv := HLV.out
          simp [results, Try.results60, asAddr, hlv]
      · have h2 : ¬ f = 1 := by omega
        clear hbad hf
        go_upto_region 6 with (fail)
        have HTH : Hid (w2.there w.heap.size 0 (z18).size) := HZ2.out.there
        have HI1 := Lib.hid (HZ2.out.whole (m := ino0) (ev' := .slice none 0 0) rfl)
        go_cut [5, 6, 33] (fun v5 v6 _ wc => v5 = .slice none 0 0 ∧ v6 = .bool false ∧ Hid (InoB wc w.heap.size ino0 (.slice none 0 0)) ∧ Hid (Below w.heap.size w wc))
        case first =>
          go_wp2_with (with_reducible refine wpList_store_mid (op := ⟨none, _, _, _, _, _⟩) rfl 25 _ _ rfl w.heap.size 0 z18 rfl rfl HTH.out HISZ0.out HONE0.out ?_)
          go_meet
          case rel => exact ⟨rfl, rfl, HI1.out, (nob_mod_below HM2.out).trans (Lib.below_setCells_w (Nat.le_refl _) _ _ _)⟩
        case rest =>
          obtain ⟨rfl, rfl, HIA, HBE⟩ := hcut
          have hlv := run_loadVar_mid (P := Try.prog) wc w.heap.size 0 25 _ _ (HIA.out.at.range rfl) Try.underlying25 rfl (by rw [inoL_len rfl]; exact Try.info18)
          have HLV := Lib.hid hlv
          clear hlv
          go_wp2_with fail
          rw [HRES.out]
          refine bodyPost_ret (v := .tuple #[.agg (inoL ino0 (.slice none 0 0)).toArray, .slice none 0 0, .bool false]) ?_ rfl ⟨HBE.out, rfl⟩
          have hlv := HLV.out
          simp [results, Try.results60, asAddr, hlv]
    · have h1 : 0 ≤ li := by omega
      have h2 : f = 1 := by omega
      subst h2
      clear hbad
      have HRR2 : Hid (rd1 S i = if n.kind = 2 then (namesTo S n.bl (min n.size.toNat 24)).bind (fun r => finR S at_ { n with ents := r.1, bl := zbl } r.2 li) else finR S at_ n [] li) := by
        unfold Hid
        rw [HRR.out, if_neg (by rw [← hf]; omega)]
      clear hf HRR HREAD HIN3
      obtain ⟨r, hr⟩ : ∃ r, r = namesTo S n.bl (min n.size.toNat 24) := ⟨_, rfl⟩
      have HNM0 := names_any (HSH.out.mod HM2.out (fun _ _ h => h)) n.bl HNO.out.len HNB.out n.size HNS.out
      rw [← hr] at HNM0 HRR2
      have HR := Lib.hid hr
      obtain ⟨kd, hkd⟩ : ∃ kd, kd = n.kind := ⟨_, rfl⟩
      have c1 := HI2.out.at.c1
      rw [← hkd] at c1
      have c3 := HI2.out.at.c3
      obtain ⟨sz, hsz⟩ : ∃ sz, sz = n.size := ⟨_, rfl⟩
      rw [← hsz] at c3 HNM0
      have HNM := Lib.hid HNM0
      have HKD := Lib.hid hkd
      have HSZ := Lib.hid hsz
      have HRB := Lib.hid (HI2.out.at.blocks HNO.out.len)
      have HU13 : Hid ((Try.prog.info? 22).map (·.size) = some (n.bl.map (Value.int .i64)).length) := by
        unfold Hid
        rw [List.length_map, HNO.out.len]
        exact Try.info13
      clear hkd hsz hr HNM0
      go_upto_if 36 with (fail)
      go_cut [10, 11, 12, 13, 37, 38, 39, 40, 41, 42, 43, 44, 45, 46, 47, 48, 49, 50, 51, 52, 53, 54] (fun v10 _ _ _ _ _ _ _ _ _ _ _ _ _ _ _ _ _ _ _ _ _ wc => ∃ (m : Ino) (ev : Value) (own : List Nat), Hid (RdMid w wc B S at_ li (rd1 S i) m ev v10 own))
      case first =>
        by_cases hk2 : kd = 2
        · have HRR3 : Hid (rd1 S i = r.bind (fun r => finR S at_ { n with ents := r.1, bl := zbl } r.2 li)) := by
            unfold Hid
            rw [HRR2.out, if_pos (by rw [← HKD.out]; exact hk2)]
          subst hk2
          clear HRR2
          cases r with
          | none =>
            have hres : rd1 S i = none := by rw [HRR3.out]; rfl
            have HRES := Lib.hid hres
            clear hres
            go_upto_if 48 with (first
              | (with_reducible refine wpList_load_mid (op := ⟨some 40, _, _, _, _, _⟩) rfl 22 _ rfl B (0 + 4) rfl (n.bl.map (Value.int .i64)) _ HRB.out Try.underlying22 rfl HU13.out ?_)
              | (go_at_call 96; refine HNM.out.mono ?_; rintro e w3 ⟨hb3, rfl⟩))
            have HM23 : Hid (Mod nob w2 w3) := mod_of_below hb3
            have HM3 : Hid (Mod nob w w3) := HM2.out.step HM23.out (fun _ h => h)
            have HZ3 := Lib.hid (HZ2.out.mod HM23.out (fun h => h))
            clear hb3
            go_upto_region 11 with (fail)
            have HTH : Hid (w3.there w.heap.size 0 (z18).size) := HZ3.out.there
            have HI1 := Lib.hid (HZ3.out.whole (m := ino0) (ev' := .slice none 0 0) rfl)
            go_cut [5, 6, 49] (fun v5 v6 _ wc => v5 = .slice none 0 0 ∧ v6 = .bool false ∧ Hid (InoB wc w.heap.size ino0 (.slice none 0 0)) ∧ Hid (Below w.heap.size w wc))
            case first =>
              go_wp2_with (with_reducible refine wpList_store_mid (op := ⟨none, _, _, _, _, _⟩) rfl 25 _ _ rfl w.heap.size 0 z18 rfl rfl HTH.out HISZ0.out HONE0.out ?_)
              go_meet
              case rel => exact ⟨rfl, rfl, HI1.out, (nob_mod_below HM3.out).trans (Lib.below_setCells_w (Nat.le_refl _) _ _ _)⟩
            case rest =>
              obtain ⟨rfl, rfl, HIA, HBE⟩ := hcut
              have hlv := run_loadVar_mid (P := Try.prog) wc w.heap.size 0 25 _ _ (HIA.out.at.range rfl) Try.underlying25 rfl (by rw [inoL_len rfl]; exact Try.info18)
              have HLV := Lib.hid hlv
              clear hlv
              go_wp2_with fail
              rw [HRES.out]
              refine bodyPost_ret (v := .tuple #[.agg (inoL ino0 (.slice none 0 0)).toArray, .slice none 0 0, .bool false]) ?_ rfl ⟨HBE.out, rfl⟩
              have hlv := HLV.out
              simp [results, Try.results60, asAddr, hlv]
          | some rr =>
            obtain ⟨out, own⟩ := rr
            go_upto_if 48 with (first
              | (with_reducible refine wpList_load_mid (op := ⟨some 40, _, _, _, _, _⟩) rfl 22 _ rfl B (0 + 4) rfl (n.bl.map (Value.int .i64)) _ HRB.out Try.underlying22 rfl HU13.out ?_)
              | (go_at_call 96; refine HNM.out.mono ?_; rintro e w3 ⟨hb3, ev, bv, rfl, ho, hv⟩))
            have HM23 : Hid (Mod nob w2 w3) := mod_of_below hb3
            have HM3 : Hid (Mod nob w w3) := HM2.out.step HM23.out (fun _ h => h)
            have HZ3 := Lib.hid (HZ2.out.mod HM23.out (fun h => h))
            have HI3 := Lib.hid (HI2.out.mod HM23.out (fun h => h))
            have hlaw := namesTo_law HOK.out n.bl (fun k hk => (HNB.out k hk).2) (min n.size.toNat 24) (by omega) out own HR.out.symm
            have hgB : ∀ g, w2.heap.size ≤ g → g ≠ B ∧ w.heap.size ≤ g ∧ g ≠ w.heap.size := by
              intro g hg
              have h1 := HI2.out.lt
              have h2 := HM2.out.size
              have h3 := HBG.out
              omega
            have hge := own_ge ho
            have hgv := own_ge hv
            obtain ⟨va, vc, rfl, v1, v2, -⟩ := own_shape ho
            obtain ⟨ua, uc, rfl, u1, u2, -⟩ := own_shape hv
            obtain ⟨w4, hw4⟩ : ∃ w4, w4 = (w3.setCell ⟨B, 17, none⟩ (.slice va out.length vc)).setCells B 4 z13.toList := ⟨_, rfl⟩
            have HM34 : Hid (Mod (fun b => b = B) w3 w4) := by
              rw [hw4]
              exact Mod.setCells (D := fun b => b = B) B (.inl rfl) _ _ _ ((Mod.refl (fun b => b = B) w3).setCell (a := ⟨B, 17, none⟩) (.inl rfl) _)
            have HM4 : Hid (Mod nob w w4) := by
              rw [hw4]
              exact Mod.setCells B (.inr (Nat.le_of_lt HBG.out)) _ _ _ (HM3.out.setCell (a := ⟨B, 17, none⟩) (.inr (Nat.le_of_lt HBG.out)) _)
            have HRD : Hid (RdMid w w4 B S at_ li (rd1 S i) { n with ents := out, bl := zbl } (.slice va out.length vc) (.slice ua own.length uc) own) := by
              refine ⟨?_, HZ3.out.mod HM34.out (by have := HBG.out; omega), ?_, ?_, HM4.out, fun g hg => by have := hgB g (hge g hg); omega, fun g hg => by have := hgB g (hgv g hg); omega, ?_, hlaw.2.2.1, ?_, HRR3.out, ?_⟩
              · rw [hw4]
                exact (HI3.out.setEv out (.slice va out.length vc)).setBls zbl rfl
              · exact (holdsE_of_own rfl ho).mod HM34.out (fun _ g hg => (hgB g (hge g hg)).1)
              · exact (holdsN_of_own rfl hv).mod HM34.out (fun _ g hg => (hgB g (hgv g hg)).1)
              · obtain ⟨i1, i2, i3, i4, i5, i6, i7⟩ := HNO.out
                exact ⟨i1, i2, i3, i4, zbl_len, fun x hx => by rw [zbl_mem hx]; unfold i64; omega, hlaw.2.2.2⟩
              · rw [hlaw.2.1]
                omega
              · intro _
                show own.length = (out.length + 3) / 4
                rw [hlaw.2.1, hlaw.1]
            have HW4 := Lib.hid hw4
            have c17 := HI3.out.at.ev
            have f17 := HI3.out.frozen 17
            have HTH4 : Hid ((w3.setCell ⟨B, 17, none⟩ (.slice va out.length vc)).there B 4 (z13).size) := (HI3.out.setEv out (.slice va out.length vc)).there4
            have HISZ4 : Hid ((Try.prog.info? 22).map (·.size) = some (z13).size) := Try.info13
            have HONE4 : Hid ((z13).all (·.oneCell') = true) := all_oneCell_toArray (cs := zbl.map (Value.int .i64)) (ints_oneCell _ _)
            obtain ⟨no, hno⟩ : ∃ no, no = out.length := ⟨_, rfl⟩
            obtain ⟨nw, hnw⟩ : ∃ nw, nw = own.length := ⟨_, rfl⟩
            rw [← hno] at HRD HTH4 HW4 ⊢
            rw [← hnw] at HRD ⊢
            clear hw4 hlaw hgB hge hgv ho hv v1 v2 u1 u2 hb3 c0 c1 c3 hno hnw
            go_wp2_with (with_reducible refine wpList_store_mid (op := ⟨none, _, _, _, _, _⟩) rfl 22 _ _ rfl B 4 z13 rfl rfl HTH4.out HISZ4.out HONE4.out ?_)
            rw [← HW4.out]
            go_meet
            case rel => exact ⟨_, _, _, HRD.out⟩
        · have HRR3 : Hid (rd1 S i = finR S at_ n [] li) := by
            unfold Hid
            rw [HRR2.out, if_neg (by rw [← HKD.out]; exact hk2)]
          have HRD : Hid (RdMid w w2 B S at_ li (rd1 S i) n (.slice none 0 0) (.slice none 0 0) []) := by
            refine ⟨HI2.out, HZ2.out, ?_, HoldsN.nil _, HM2.out, (fun g hg => by cases hg), (fun g hg => by cases hg), HNO.out, (fun b hb => by cases hb), Nat.zero_le _, HRR3.out, fun _ => ?_⟩
            · rw [HNE.out]; exact HoldsE.nil _
            · unfold need1; rw [HNE.out]; rfl
          clear HRR2 HNM HR
          go_wp2_with fail
          go_meet
          case rel => exact ⟨_, _, _, HRD.out⟩
      case rest =>
        obtain ⟨m, ev, own, HMD⟩ := hcut
        obtain ⟨w5, rfl⟩ : ∃ w5 : World, w5 = wc := ⟨_, rfl⟩
        clear HI2 HZ2 HM2 HRR2 HR HNM HRB HNB HNS HNE HM1 HM01 HM12 HM0 c0 c1 c3 HU13 HKD HSZ HF
        obtain ⟨ta, tc, rfl, t1, t2, -, -⟩ := HMD.out.hv
        obtain ⟨ea, ec, rfl, e1, e2, -, -⟩ := HMD.out.he
        obtain ⟨M, hM⟩ : ∃ M, M = own.length := ⟨_, rfl⟩
        obtain ⟨L, hL⟩ : ∃ L, L = m.ents.length := ⟨_, rfl⟩
        have hM24 : M ≤ 24 := by rw [hM]; exact HMD.out.len
        rw [← hM] at t1 HMD
        rw [← hL] at e1 HMD
        rw [← hM]
        unfold maxLen at t2 e2
        have HML := Lib.hid hM
        have HLL := Lib.hid hL
        clear hM hL
        go_upto_if 57 with (fail)
        go_cut [14, 58, 59, 60, 61, 62, 63] (fun v14 _ _ _ _ _ _ wc => ∃ va, va = v14 ∧ Hid (RdMid w wc B S at_ li (rd1 S i) m (.slice ea L ec) (.slice ta M tc) own) ∧ Hid (HoldsN wc va (allOf own li)) ∧ Hid (∀ g, va.ownBlock = some g → w.heap.size < g))
        case first =>
          by_cases hl0 : 0 < li
          · have hall : allOf own li = own ++ [li.toNat] := by unfold allOf; rw [if_pos hl0]
            have HALL := Lib.hid hall
            have HCN : Hid (HoldsC w5 (.slice ta M tc) M (nums own)) := by
              have := HMD.out.hv.cells
              rw [← HML.out] at this
              exact this
            have HXL : Hid ((nums own).length = M * 1) := by unfold Hid; rw [nums_len, ← HML.out]; omega
            clear hall
            obtain ⟨i0, hi0, hz0, hz1, hz2⟩ := info_parts infoInt
            go_wp2_with (at_builtin; refine wpList_append_any rfl (.tmp 58) (.tmp 59) _ rfl w5.heap.size 3 i0 _ 1 8 Try.underlying56 hi0 hz0 hz1 hz2 rfl (by omega) (.slice (some ⟨w5.heap.size, 0, none⟩) 0 0) 0 [] rfl (own_block (cs := #[]) (n := 0) ?_ (Nat.le_refl _) (Nat.zero_le _) rfl) _ M (nums own) rfl (HoldsC.mod (D := nob) HCN.out ?_ (fun _ _ h => h)) HXL.out (nums_one own) (by unfold maxLen; omega) (by omega) ?_ ?_)
            · first | exact heap_alloc_new _ _ | exact heap_new1 _ _ _ | exact heap_new0 _ _ _
            · repeat (first | exact Mod.refl _ _ | refine Mod.drew ?_ | refine Mod.alloc ?_ _)
            · first | (simp; done) | (simp; omega)
            intro v' w6 hown6 hgrow hat
            try simp only [Nat.zero_add, List.nil_append] at hown6
            have HB56 : Hid (Below w5.heap.size w5 w6) := ((Below.refl _ _).alloc (Nat.le_refl _) _).grown hgrow (by simp) (by intro q hq; simp [Value.ownBlock] at hq; omega)
            have HO6 := Lib.hid hown6
            have hsz6 := HB56.out.size
            obtain ⟨oa, oc, rfl, o1, o2, -⟩ := own_shape hown6
            clear hown6 hgrow hat
            go_wp2_with (at_builtin; refine wpList_append_own_at _ rfl (.tmp 60) (.tmp 62) 56 rfl w5.heap.size 3 i0 (.int .i64 0) 1 8 Try.underlying56 hi0 hz0 hz1 hz2 rfl (by decide) _ M (nums own) rfl (HO6.out.alloc _) ⟨w6.heap.size, 0, none⟩ 1 1 [.int .i64 li] rfl rfl (cells_new _ _ _) (by simp [Value.oneCell']) (by unfold maxLen; omega) (by omega) (by simp; omega) ?_)
            intro v2 w7 hown7 hgr7 _ hat7
            have HB57 : Hid (Below w5.heap.size w5 w7) := HB56.out.trans (((Below.refl _ _).alloc hsz6 _).grown hgr7 (by simp; omega) (fun q hq => own_ge HO6.out q hq))
            have HM57 : Hid (Mod nob w5 w7) := mod_of_below HB57.out
            have hge := own_ge hown7
            have e7 : nums own ++ [Value.int .i64 li] = nums (own ++ [li.toNat]) := by
              rw [nums_snoc, Int.toNat_of_nonneg (by omega)]
            rw [e7] at hown7
            have HO7 := Lib.hid (holdsN_of_own (l := own ++ [li.toNat]) (by simp [HML.out]) hown7)
            have HW5 : Hid (w.heap.size < w5.heap.size) := HMD.out.z.lt
            have HGE : Hid (∀ g, v2.ownBlock = some g → w.heap.size < g) := fun g hg => Nat.lt_of_lt_of_le HW5.out (hge g hg)
            clear hown7 hgr7 hat7 hge e7
            go_wp2_with fail
            go_meet
            case rel =>
              rw [HALL.out]
              exact ⟨_, rfl, HMD.out.mod' HM57.out, HO7.out, HGE.out⟩
          · have hall : allOf own li = own := by unfold allOf; rw [if_neg hl0]
            have HALL := Lib.hid hall
            clear hall
            go_wp2_with fail
            go_meet
            case rel =>
              rw [HALL.out]
              exact ⟨_, rfl, HMD.out, HMD.out.hv, HMD.out.vf⟩
        case rest =>
          obtain ⟨va, rfl, HMC, HALL, HAF⟩ := hcut
          obtain ⟨w6, rfl⟩ : ∃ w6 : World, w6 = wc := ⟨_, rfl⟩
          clear HMD
          obtain ⟨b1, hb1⟩ : ∃ b, b = rightB m := ⟨_, rfl⟩
          obtain ⟨b2, hb2⟩ : ∃ b, b = apartB (allOf own li) := ⟨_, rfl⟩
          obtain ⟨b3, hb3⟩ : ∃ b, b = exactB S at_ m own li := ⟨_, rfl⟩
          have hiff : (b1 = true ∧ b2 = true ∧ b3 = true) ↔ (RightP m ∧ apartB (allOf own li) = true ∧ ExactP S at_ m own li) := by
            rw [hb1, hb2, hb3, rightB_iff, exactB_iff]
          have HWIN : Hid (b1 = true ∧ b2 = true ∧ b3 = true → rd1 S i = some (m, allOf own li)) := fun hh => by
            rw [HMC.out.res]; unfold finR; rw [if_pos (hiff.1 hh)]
          have HFAIL : Hid (¬ (b1 = true ∧ b2 = true ∧ b3 = true) → rd1 S i = none) := fun hh => by
            rw [HMC.out.res]; unfold finR; rw [if_neg (fun h => hh (hiff.2 h))]
          have HRI : Hid (∀ wx, Mod nob w6 wx → Calls Try.prog 54 #[.agg (inoL m (.slice ea L ec)).toArray] wx fun e w' => e = .returned (.bool b1) ∧ Below wx.heap.size wx w') := fun wx hm => by
            rw [hb1]
            exact right_any HMC.out.ok (HMC.out.he.mod hm (fun _ _ _ h => h))
          have HAP : Hid (∀ wx, Mod nob w6 wx → Calls Try.prog 97 #[va] wx fun e w' => e = .returned (.bool b2) ∧ Below wx.heap.size wx w') := fun wx hm => by
            rw [hb2]
            refine apart_any (HALL.out.mod hm (fun _ _ _ h => h)) ?_ (allOf_lt HMC.out.lt l1)
            have h1 := allOf_len own li
            have h2 := HMC.out.len
            omega
          have HEX : Hid (b1 = true → ∀ wx, Mod nob w6 wx → Calls Try.prog 98 #[.pointer (some ⟨p, 0, none⟩), .int .i64 at_, .agg (inoL m (.slice ea L ec)).toArray, .slice ta M tc, .int .i64 li] wx fun e w' => e = .returned (.bool b3) ∧ Below wx.heap.size wx w') := fun hr1 wx hm => by
            rw [hb3]
            have hrp : RightP m := by rw [hb1] at hr1; exact (rightB_iff m).1 hr1
            exact exact_any (HSH.out.mod (HMC.out.mod.step hm (fun _ h => h)) (fun _ _ h => h)) at_ ⟨a0, a1⟩ HMC.out.ok (HMC.out.he.mod hm (fun _ _ _ h => h)) (HMC.out.hv.mod hm (fun _ _ _ h => h)) hrp (HMC.out.need hrp) HMC.out.lt li ⟨h1, l1⟩
          have HRG := Lib.hid (HMC.out.ino.at.range HMC.out.ok.len)
          have HSZI : Hid ((Try.prog.info? 25).map (·.size) = some (inoL m (.slice ea L ec)).length) := by
            unfold Hid
            rw [inoL_len HMC.out.ok.len]
            exact Try.info18
          have HX : Hid (Mod nob w6 w6) := Mod.refl nob w6
          clear hb1 hb2 hb3 hiff
          by_cases hwin : b1 = true ∧ b2 = true ∧ b3 = true
          · have HRES := Lib.hid (HWIN.out hwin)
            obtain ⟨rfl, rfl, rfl⟩ := hwin
            clear HWIN HFAIL
            go_upto_region 18 with (first
              | (with_reducible refine wpList_load_mid (op := ⟨some 64, _, _, _, _, _⟩) rfl 25 _ rfl B 0 rfl (inoL m (.slice ea L ec)) _ HRG.out Try.underlying25 rfl HSZI.out ?_)
              | (with_reducible refine wpList_load_mid (op := ⟨some 75, _, _, _, _, _⟩) rfl 25 _ rfl B 0 rfl (inoL m (.slice ea L ec)) _ HRG.out Try.underlying25 rfl HSZI.out ?_)
              | (refine wpList_unguard (o := ⟨some 75, _, _, _, _, _⟩) (by rfl) ?_)
              | (go_at_call 54; refine (HRI.out _ HX.out).mono ?_; rintro e wz ⟨rfl, hbz⟩; have HX := Lib.hid (HX.out.step (mod_of_below hbz) (fun _ h => h)); clear hbz; have HRG := Lib.hid ((HMC.out.ino.mod HX.out (fun h => h)).at.range HMC.out.ok.len))
              | (go_at_call 97; refine (HAP.out _ HX.out).mono ?_; rintro e wz ⟨rfl, hbz⟩; have HX := Lib.hid (HX.out.step (mod_of_below hbz) (fun _ h => h)); clear hbz; have HRG := Lib.hid ((HMC.out.ino.mod HX.out (fun h => h)).at.range HMC.out.ok.len))
              | (go_at_call 98; refine (HEX.out (by simp) _ HX.out).mono ?_; rintro e wz ⟨rfl, hbz⟩; have HX := Lib.hid (HX.out.step (mod_of_below hbz) (fun _ h => h)); clear hbz; have HRG := Lib.hid ((HMC.out.ino.mod HX.out (fun h => h)).at.range HMC.out.ok.len)))
            have HZX := Lib.hid (HMC.out.z.mod HX.out (fun h => h))
            have HMX := Lib.hid (HMC.out.mod.step HX.out (fun _ h => h))
            have hszA : (inoL m (.slice ea L ec)).toArray.size = 18 := by simp [inoL_len HMC.out.ok.len]
            have HTH : Hid (wz.there w.heap.size 0 (inoL m (.slice ea L ec)).toArray.size) := by
              unfold Hid; rw [hszA]; exact HZX.out.there
            have HISZ : Hid ((Try.prog.info? 25).map (·.size) = some (inoL m (.slice ea L ec)).toArray.size) := by
              unfold Hid; rw [hszA]; exact Try.info18
            have HONE : Hid ((inoL m (.slice ea L ec)).toArray.all (·.oneCell') = true) := all_oneCell_toArray (inoL_one rfl)
            have HEND : Hid (Mod (fun b => b = w.heap.size) wz (wz.setCells w.heap.size 0 (inoL m (.slice ea L ec)))) := Mod.setCells (D := fun b => b = w.heap.size) w.heap.size (.inl rfl) _ _ _ (Mod.refl (fun b => b = w.heap.size) wz)
            have HI1 := Lib.hid (HZX.out.whole (m := m) (ev' := .slice ea L ec) HMC.out.ok.len)
            have HBE : Hid (Below w.heap.size w (wz.setCells w.heap.size 0 (inoL m (.slice ea L ec)))) := (nob_mod_below HMX.out).trans (Lib.below_setCells_w (Nat.le_refl _) _ _ _)
            have HE1 : Hid (HoldsE (wz.setCells w.heap.size 0 (inoL m (.slice ea L ec))) (.slice ea L ec) m.ents) := (HMC.out.he.mod HX.out (fun _ _ _ h => h)).mod HEND.out (fun _ g hg => by have := HMC.out.ef g hg; omega)
            have HN1 : Hid (HoldsN (wz.setCells w.heap.size 0 (inoL m (.slice ea L ec))) va (allOf own li)) := (HALL.out.mod HX.out (fun _ _ _ h => h)).mod HEND.out (fun _ g hg => by have := HAF.out g hg; omega)
            clear hszA
            go_cut [5, 6, 82, 83] (fun v5 v6 _ _ wc => va = v5 ∧ v6 = .bool true ∧ Hid (InoB wc w.heap.size m (.slice ea L ec)) ∧ Hid (Below w.heap.size w wc) ∧ Hid (HoldsE wc (.slice ea L ec) m.ents) ∧ Hid (HoldsN wc va (allOf own li)))
            case first =>
              go_wp2_with (first
                | (with_reducible refine wpList_load_mid (op := ⟨some 82, _, _, _, _, _⟩) rfl 25 _ rfl B 0 rfl (inoL m (.slice ea L ec)) _ HRG.out Try.underlying25 rfl HSZI.out ?_)
                | (with_reducible refine wpList_store_mid (op := ⟨none, _, _, _, _, _⟩) rfl 25 _ _ rfl w.heap.size 0 (inoL m (.slice ea L ec)).toArray rfl rfl HTH.out HISZ.out HONE.out ?_))
              go_meet
              case rel => exact ⟨rfl, rfl, HI1.out, HBE.out, HE1.out, HN1.out⟩
            case rest =>
              obtain ⟨rfl, rfl, HIA, HBE, HE2, HN2⟩ := hcut
              have hlv := run_loadVar_mid (P := Try.prog) wc w.heap.size 0 25 _ _ (HIA.out.at.range HMC.out.ok.len) Try.underlying25 rfl (by rw [inoL_len HMC.out.ok.len]; exact Try.info18)
              have HLV := Lib.hid hlv
              clear hlv
              go_wp2_with fail
              rw [HRES.out]
              refine bodyPost_ret (v := .tuple #[.agg (inoL m (.slice ea L ec)).toArray, va, .bool true]) ?_ rfl ⟨HBE.out, _, _, rfl, HE2.out, HN2.out, fun g hg => Nat.le_of_lt (HMC.out.ef g hg), fun g hg => Nat.le_of_lt (HAF.out g hg)⟩
              have hlv := HLV.out
              simp [results, Try.results60, asAddr, hlv]
          · have HRES := Lib.hid (HFAIL.out hwin)
            have hthree := three_no hwin
            clear HWIN HFAIL hwin
            rcases hthree with rfl | ⟨rfl, rfl⟩ | ⟨rfl, rfl, rfl⟩
            all_goals
              go_upto_region 17 with (first
                | (with_reducible refine wpList_load_mid (op := ⟨some 64, _, _, _, _, _⟩) rfl 25 _ rfl B 0 rfl (inoL m (.slice ea L ec)) _ HRG.out Try.underlying25 rfl HSZI.out ?_)
                | (with_reducible refine wpList_load_mid (op := ⟨some 75, _, _, _, _, _⟩) rfl 25 _ rfl B 0 rfl (inoL m (.slice ea L ec)) _ HRG.out Try.underlying25 rfl HSZI.out ?_)
                | (refine wpList_unguard (o := ⟨some 75, _, _, _, _, _⟩) (by rfl) ?_)
                | (go_at_call 54; refine (HRI.out _ HX.out).mono ?_; rintro e wz ⟨rfl, hbz⟩; have HX := Lib.hid (HX.out.step (mod_of_below hbz) (fun _ h => h)); clear hbz; have HRG := Lib.hid ((HMC.out.ino.mod HX.out (fun h => h)).at.range HMC.out.ok.len))
                | (go_at_call 97; refine (HAP.out _ HX.out).mono ?_; rintro e wz ⟨rfl, hbz⟩; have HX := Lib.hid (HX.out.step (mod_of_below hbz) (fun _ h => h)); clear hbz; have HRG := Lib.hid ((HMC.out.ino.mod HX.out (fun h => h)).at.range HMC.out.ok.len))
                | (go_at_call 98; refine (HEX.out (by simp) _ HX.out).mono ?_; rintro e wz ⟨rfl, hbz⟩; have HX := Lib.hid (HX.out.step (mod_of_below hbz) (fun _ h => h)); clear hbz; have HRG := Lib.hid ((HMC.out.ino.mod HX.out (fun h => h)).at.range HMC.out.ok.len)))
              have HZX := Lib.hid (HMC.out.z.mod HX.out (fun h => h))
              have HMX := Lib.hid (HMC.out.mod.step HX.out (fun _ h => h))
              have HTH : Hid (wz.there w.heap.size 0 (z18).size) := HZX.out.there
              have HI1 := Lib.hid (HZX.out.whole (m := ino0) (ev' := .slice none 0 0) rfl)
              go_cut [5, 6, 81] (fun v5 v6 _ wc => v5 = .slice none 0 0 ∧ v6 = .bool false ∧ Hid (InoB wc w.heap.size ino0 (.slice none 0 0)) ∧ Hid (Below w.heap.size w wc))
              case first =>
                go_wp2_with (with_reducible refine wpList_store_mid (op := ⟨none, _, _, _, _, _⟩) rfl 25 _ _ rfl w.heap.size 0 z18 rfl rfl HTH.out HISZ0.out HONE0.out ?_)
                go_meet
                case rel => exact ⟨rfl, rfl, HI1.out, (nob_mod_below HMX.out).trans (Lib.below_setCells_w (Nat.le_refl _) _ _ _)⟩
              case rest =>
                obtain ⟨rfl, rfl, HIA, HBE⟩ := hcut
                have hlv := run_loadVar_mid (P := Try.prog) wc w.heap.size 0 25 _ _ (HIA.out.at.range rfl) Try.underlying25 rfl (by rw [inoL_len rfl]; exact Try.info18)
                have HLV := Lib.hid hlv
                clear hlv
                go_wp2_with fail
                rw [HRES.out]
                refine bodyPost_ret (v := .tuple #[.agg (inoL ino0 (.slice none 0 0)).toArray, .slice none 0 0, .bool false]) ?_ rfl ⟨HBE.out, rfl⟩
                have hlv := HLV.out
                simp [results, Try.results60, asAddr, hlv]
end Go.Proofs.Ytlopdbhjdijlmaa
