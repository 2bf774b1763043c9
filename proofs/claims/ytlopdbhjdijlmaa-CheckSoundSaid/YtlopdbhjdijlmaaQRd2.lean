/-
  What fmt2.Read answers: a contract. No condition but the sheet.
-/
import Derived.Test.YtlopdbhjdijlmaaQRd2M

namespace Go.Proofs.Ytlopdbhjdijlmaa
open Go.ChangeShapes Go.WideShapes Go.ChangeAt Go.RowKit
set_option linter.unusedSimpArgs false
set_option linter.unusedVariables false

/-- Where the kinds meet. -/
structure Rd2Mid (w wc : World) (B : Nat) (S : Sh) (at_ : Nat) (r : Option (Ino × List Nat)) (m : Ino) (ev v10 : Value) (own : List Nat) (okb : Bool) : Prop where
  ino : InoB wc B m ev
  z : InoB wc w.heap.size ino0 (.slice none 0 0)
  he : HoldsE wc ev m.ents
  hv : HoldsN wc v10 own
  mod : Mod nob w wc
  ef : ∀ g, ev.ownBlock = some g → w.heap.size < g
  vf : ∀ g, v10.ownBlock = some g → w.heap.size < g
  ok : okb = true → m.Ok
  lt : ∀ b ∈ own, b < 256
  res : r = if okb = true then finR2 S at_ m own else none

theorem ino_head (S : Sh) (at_ : Int) (x y : Int) (hx : x = S.get at_) (hy : y = S.get (at_ + 1)) : headN S at_ = ⟨x % 256, x / 256 % 256, x / 65536 % 65536, if 1048576 < y then 1048576 else y, List.replicate 13 0, []⟩ := by rw [hx, hy]; rfl

set_option maxRecDepth 20000 in
set_option maxHeartbeats 8000000 in
theorem rd2_any {w : World} {p : Nat} {D : Nat → Prop} {S : Sh} (h : SheetAt w p D S) (i : Int) :
    Calls Try.prog 61 #[.pointer (some ⟨p, 0, none⟩), .int .i64 i] w (RdPost w (rd2 S i)) := by
  have HSH := Lib.hid h
  have HOK := Lib.hid h.ok
  have HI0 : Hid (InoB (w.alloc (.cells z18 25)) w.heap.size ino0 (.slice none 0 0)) := inoB_lit0 (heap_alloc_new _ _)
  have HM0 : Hid (Mod nob w (w.alloc (.cells z18 25))) := (Mod.refl nob w).alloc _
  have HONE0 : Hid ((z18).all (·.oneCell') = true) := all_oneCell_toArray (cs := inoL ino0 (.slice none 0 0)) (inoL_one rfl)
  have HISZ0 : Hid ((Try.prog.info? 25).map (·.size) = some (z18).size) := Try.info18
  have HIN := Lib.hid (inode_any i (w.alloc (.cells z18 25)))
  have HG : Hid (∀ (wx : World), Mod nob w wx → ∀ i : Int, Calls Try.prog 37 #[.pointer (some ⟨p, 0, none⟩), .int .i64 i] wx fun e w' => e = .returned (.int .u64 (S.get i)) ∧ wx = w') := fun wx hm i => sheet_get (h.mod hm (fun _ _ h => h)) i
  clear h
  by_cases hi : i < 0 ∨ 32 ≤ i
  · have hr : rd2 S i = none := by unfold rd2; rw [if_pos hi]
    rw [hr]
    have HIN2 := HIN
    unfold Hid at HIN2
    rw [if_pos hi] at HIN2
    have HIN3 := Lib.hid HIN2
    clear HIN HIN2 hr hi
    go_enter Try.func61, Try.ntmps61
    go_wp2_with fail
    generalize w.alloc (.cells z18 25) = w0 at *
    refine HIN3.out.mono ?_
    rintro e w1 ⟨rfl, rfl⟩
    go_upto_region 3 with (fail)
    have HTH : Hid (w0.there w.heap.size 0 (z18).size) := HI0.out.there
    have HI1 := Lib.hid (HI0.out.whole (m := ino0) (ev' := .slice none 0 0) rfl)
    go_cut [5, 6, 18] (fun v5 v6 _ wc => v5 = .slice none 0 0 ∧ v6 = .bool false ∧ Hid (InoB wc w.heap.size ino0 (.slice none 0 0)) ∧ Hid (Below w.heap.size w wc))
    case first =>
      go_wp2_with (with_reducible refine wpList_store_mid (op := ⟨none, _, _, _, _, _⟩) rfl 25 _ _ rfl w.heap.size 0 z18 rfl rfl HTH.out HISZ0.out HONE0.out ?_)
      go_meet
      case rel => exact ⟨rfl, rfl, HI1.out, (nob_mod_below HM0.out).trans (Lib.below_setCells_w (Nat.le_refl _) _ _ _)⟩
    case rest =>
      obtain ⟨rfl, rfl, HIA, HBE⟩ := hcut
      have hlv := run_loadVar_mid (P := Try.prog) wc w.heap.size 0 25 _ _ (HIA.out.at.range rfl) Try.underlying25 rfl (by rw [inoL_len rfl]; exact Try.info18)
      have HLV := Lib.hid hlv
      clear hlv
      go_wp2_with fail
      refine bodyPost_ret (v := .tuple #[.agg (inoL ino0 (.slice none 0 0)).toArray, .slice none 0 0, .bool false]) ?_ rfl ⟨HBE.out, rfl⟩
      have hlv := HLV.out
      simp [results, Try.results61, asAddr, hlv]
  · obtain ⟨at_, hat⟩ : ∃ at_ : Nat, at_ = (824 + i * 8).toNat := ⟨_, rfl⟩
    have hati : 824 + i * 8 = (at_ : Int) := by omega
    have ha : at_ ≤ 3000 := by omega
    have hr : rd2 S i = rd2At S at_ := by unfold rd2; rw [if_neg hi, hat]
    have HIN2 := HIN
    unfold Hid at HIN2
    rw [if_neg hi, hati] at HIN2
    have HIN3 := Lib.hid HIN2
    have HA3 := Lib.hid ha
    have ha0 : (0 : Int) ≤ (at_ : Int) := Int.natCast_nonneg _
    have hai : (at_ : Int) ≤ 3000 := by omega
    have hx := HOK.out.get (at_ : Int)
    have hy := HOK.out.get ((at_ : Int) + 1)
    obtain ⟨x, hxx⟩ : ∃ x, x = S.get (at_ : Int) := ⟨_, rfl⟩
    obtain ⟨y, hyy⟩ : ∃ y, y = S.get ((at_ : Int) + 1) := ⟨_, rfl⟩
    have hhd := ino_head S (at_ : Int) x y hxx hyy
    have HNOK := Lib.hid (headN_ok HOK.out (at_ : Int))
    rw [← hxx] at hx
    rw [← hyy] at hy
    have hm8 := u64_mask8 x hx.1 hx.2
    have hm88 := u64_mask8 (x / 256) (by omega) (by omega)
    have hm16 := u64_mask16 (x / 65536) (by omega) (by omega)
    have HXX := Lib.hid hxx
    have HYY := Lib.hid hyy
    have HHD := Lib.hid hhd
    have HRR := Lib.hid hr
    obtain ⟨x0, x1⟩ := hx
    obtain ⟨y0, y1⟩ := hy
    clear HIN HIN2 hi hat hati ha hxx hyy hhd hr
    go_enter Try.func61, Try.ntmps61
    go_wp2_with fail
    generalize w.alloc (.cells z18 25) = w0 at *
    refine HIN3.out.mono ?_
    rintro e w1 ⟨rfl, rfl⟩
    go_wp2_with fail
    refine (HG.out _ HM0.out (at_ : Int)).mono ?_
    rintro e w1 ⟨rfl, rfl⟩
    rw [← HXX.out]
    go_upto_region 5 with (fail)
    obtain ⟨B, hB⟩ : ∃ B, B = w0.heap.size := ⟨_, rfl⟩
    have HBB := Lib.hid hB
    go_cut [9] (fun pv wc => pv = .pointer (some ⟨B, 0, none⟩) ∧ Hid (InoB wc w.heap.size ino0 (.slice none 0 0)) ∧ Hid (InoB wc B (headN S (at_ : Int)) (.slice none 0 0)) ∧ Hid (Mod nob w wc))
    case first =>
      go_wp2_with fail
      refine (HG.out _ HM0.out ((at_ : Int) + 1)).mono ?_
      rintro e w1 ⟨rfl, rfl⟩
      rw [← HYY.out]
      obtain ⟨mi, hmi⟩ : ∃ mi, (if 1048576 < y then 1048576 else y) = mi := ⟨_, rfl⟩
      have hm0 : 0 ≤ mi ∧ mi ≤ 1048576 := by rw [← hmi]; split <;> omega
      obtain ⟨hm0, hm1⟩ := hm0
      have HMI := Lib.hid hmi
      go_wp2_with fail
      go_meet
      case rel =>
        refine ⟨by rw [HBB.out], HI0.out.mod ((Mod.refl nob w0).alloc _) (fun h => h), ?_, HM0.out.alloc _⟩
        rw [HHD.out, HMI.out, HBB.out]
        exact inoB_lit0 (heap_alloc_new _ _)
    case rest =>
      obtain ⟨rfl, HZ2, HI2, HM2⟩ := hcut
      obtain ⟨w2, rfl⟩ : ∃ w2 : World, w2 = wc := ⟨_, rfl⟩
      have HBG : Hid (w.heap.size < B) := by unfold Hid; rw [HBB.out]; exact HI0.out.lt
      clear hm8 hm88 hm16 HI0 HM0 hB
      have c0 := HI2.out.at.c0
      have c1 := HI2.out.at.c1
      obtain ⟨f, hf⟩ : ∃ f, f = (headN S (at_ : Int)).format := ⟨_, rfl⟩
      obtain ⟨kd, hkd⟩ : ∃ kd, kd = (headN S (at_ : Int)).kind := ⟨_, rfl⟩
      rw [← hf] at c0
      rw [← hkd] at c1
      have HF := Lib.hid hf
      have HKD := Lib.hid hkd
      clear hf hkd
      have HRR2 : Hid (rd2 S i = if f ≠ 2 then none else if kd = 1 then (runs2 S at_).bind (fun r => finR2 S at_ { headN S (at_ : Int) with bl := r.1 } r.2) else if kd = 2 then (names2To S at_ 4).bind (fun r => finR2 S at_ { headN S (at_ : Int) with ents := r.1 } r.2) else finR2 S at_ (headN S (at_ : Int)) []) := by
        unfold Hid
        rw [HRR.out, HF.out, HKD.out]
        rfl
      have hlen : ∀ r : Option (Ino × List Nat), True := fun _ => trivial
      obtain ⟨fb, hfb⟩ : ∃ fb, fb = (f == 2) := ⟨_, rfl⟩
      have HFB : Hid (rd2 S i = if fb = true then (if kd = 1 then (runs2 S at_).bind (fun r => finR2 S at_ { headN S (at_ : Int) with bl := r.1 } r.2) else if kd = 2 then (names2To S at_ 4).bind (fun r => finR2 S at_ { headN S (at_ : Int) with ents := r.1 } r.2) else finR2 S at_ (headN S (at_ : Int)) []) else none) := by
        unfold Hid
        rw [HRR2.out, hfb]
        by_cases h2 : f = 2
        · have e : (f == 2) = true := by rw [h2]; rfl
          rw [if_neg (by omega), e, if_pos rfl]
        · have e : (f == 2) = false := beq_false_of_ne h2
          rw [if_pos h2, e]
          rfl
      have hR2 := runs2_any (HSH.out.mod HM2.out (fun _ _ h => h)) (at_ : Int) ⟨ha0, hai⟩
      have hN2 := names2_any (HSH.out.mod HM2.out (fun _ _ h => h)) at_ HA3.out
      have HR2 := Lib.hid hR2
      have HN2 := Lib.hid hN2
      clear HRR2 HRR hR2 hN2 hlen HIN3
      go_upto_block 0 with (fail)
      rw [← hfb]
      clear hfb
      go_cut [10, 11] (fun v10 v11 wc => ∃ (m : Ino) (ev : Value) (own : List Nat) (okb : Bool), v11 = .bool okb ∧ Hid (Rd2Mid w wc B S at_ (rd2 S i) m ev v10 own okb))
      case first =>
        by_cases hk1 : kd = 1
        · subst hk1
          rw [if_pos rfl] at HFB
          cases hr : runs2 S (at_ : Int) with
          | none =>
            rw [hr] at HR2 HFB
            have HS : Hid (rd2 S i = none) := by
              unfold Hid; rw [HFB.out]; cases fb <;> rfl
            clear hr HFB HN2
            cases fb with
            | false =>
              go_wp2_with fail
              refine HR2.out.mono ?_
              rintro e w3 ⟨hb3, l, hl3, rfl⟩
              have HM23 : Hid (Mod nob w2 w3) := mod_of_below hb3
              have HM3 : Hid (Mod nob w w3) := HM2.out.step HM23.out (fun _ h => h)
              have HZ3 := Lib.hid (HZ2.out.mod HM23.out (fun h => h))
              have HI3 := Lib.hid (HI2.out.mod HM23.out (fun h => h))
              have HSI : Hid (w2.heap.size > B) := HI2.out.lt
              have HTH4 : Hid (w3.there B 4 (l.map (Value.int .i64)).toArray.size) := by
                unfold Hid; rw [show (l.map (Value.int .i64)).toArray.size = 13 by simp [hl3]]; exact HI3.out.there4
              have HISZ4 : Hid ((Try.prog.info? 22).map (·.size) = some (l.map (Value.int .i64)).toArray.size) := by
                unfold Hid; rw [show (l.map (Value.int .i64)).toArray.size = 13 by simp [hl3]]; exact Try.info13
              have HONE4 : Hid ((l.map (Value.int .i64)).toArray.all (·.oneCell') = true) := all_oneCell_toArray (ints_oneCell _ _)
              have HM34 : Hid (Mod (fun b => b = B) w3 (w3.setCells B 4 (l.map (Value.int .i64)))) := Mod.setCells (D := fun b => b = B) B (.inl rfl) _ _ _ (Mod.refl (fun b => b = B) w3)
              have HM4 : Hid (Mod nob w (w3.setCells B 4 (l.map (Value.int .i64)))) := Mod.setCells B (.inr (Nat.le_of_lt HBG.out)) _ _ _ HM3.out
              have HRD : Hid (Rd2Mid w (w3.setCells B 4 (l.map (Value.int .i64))) B S at_ (rd2 S i) { headN S (at_ : Int) with bl := l } (.slice none 0 0) (.slice none 0 0) [] false) := by
                refine ⟨HI3.out.setBls l hl3, HZ3.out.mod HM34.out (by have := HBG.out; omega), HoldsE.nil _, ?_, HM4.out, (fun g hg => by cases hg), ?_, ?_, ?_, ?_⟩
                · exact HoldsN.nil _
                · intro g hg; cases hg
                · intro h; cases h
                · intro b hb; cases hb
                · rw [HS.out, if_neg (by simp)]
              clear hb3 hl3
              go_wp2_with (with_reducible refine wpList_store_mid (op := ⟨none, _, _, _, _, _⟩) rfl 22 _ _ rfl B 4 (l.map (Value.int .i64)).toArray rfl rfl HTH4.out HISZ4.out HONE4.out ?_)
              go_meet
              case rel => exact ⟨_, _, _, _, rfl, HRD⟩
            | true =>
              go_wp2_with fail
              refine HR2.out.mono ?_
              rintro e w3 ⟨hb3, l, hl3, rfl⟩
              have HM23 : Hid (Mod nob w2 w3) := mod_of_below hb3
              have HM3 : Hid (Mod nob w w3) := HM2.out.step HM23.out (fun _ h => h)
              have HZ3 := Lib.hid (HZ2.out.mod HM23.out (fun h => h))
              have HI3 := Lib.hid (HI2.out.mod HM23.out (fun h => h))
              have HSI : Hid (w2.heap.size > B) := HI2.out.lt
              have HTH4 : Hid (w3.there B 4 (l.map (Value.int .i64)).toArray.size) := by
                unfold Hid; rw [show (l.map (Value.int .i64)).toArray.size = 13 by simp [hl3]]; exact HI3.out.there4
              have HISZ4 : Hid ((Try.prog.info? 22).map (·.size) = some (l.map (Value.int .i64)).toArray.size) := by
                unfold Hid; rw [show (l.map (Value.int .i64)).toArray.size = 13 by simp [hl3]]; exact Try.info13
              have HONE4 : Hid ((l.map (Value.int .i64)).toArray.all (·.oneCell') = true) := all_oneCell_toArray (ints_oneCell _ _)
              have HM34 : Hid (Mod (fun b => b = B) w3 (w3.setCells B 4 (l.map (Value.int .i64)))) := Mod.setCells (D := fun b => b = B) B (.inl rfl) _ _ _ (Mod.refl (fun b => b = B) w3)
              have HM4 : Hid (Mod nob w (w3.setCells B 4 (l.map (Value.int .i64)))) := Mod.setCells B (.inr (Nat.le_of_lt HBG.out)) _ _ _ HM3.out
              have HRD : Hid (Rd2Mid w (w3.setCells B 4 (l.map (Value.int .i64))) B S at_ (rd2 S i) { headN S (at_ : Int) with bl := l } (.slice none 0 0) (.slice none 0 0) [] false) := by
                refine ⟨HI3.out.setBls l hl3, HZ3.out.mod HM34.out (by have := HBG.out; omega), HoldsE.nil _, ?_, HM4.out, (fun g hg => by cases hg), ?_, ?_, ?_, ?_⟩
                · exact HoldsN.nil _
                · intro g hg; cases hg
                · intro h; cases h
                · intro b hb; cases hb
                · rw [HS.out, if_neg (by simp)]
              clear hb3 hl3
              go_wp2_with (with_reducible refine wpList_store_mid (op := ⟨none, _, _, _, _, _⟩) rfl 22 _ _ rfl B 4 (l.map (Value.int .i64)).toArray rfl rfl HTH4.out HISZ4.out HONE4.out ?_)
              go_meet
              case rel => exact ⟨_, _, _, _, rfl, HRD⟩
          | some r =>
            obtain ⟨l, own⟩ := r
            rw [hr] at HR2 HFB
            have HLAW := Lib.hid (runs2_law hr)
            have HS : Hid (rd2 S i = if fb = true then finR2 S at_ { headN S (at_ : Int) with bl := l } own else none) := HFB.out
            clear hr HFB HN2
            cases fb with
            | false =>
              go_wp2_with fail
              refine HR2.out.mono ?_
              rintro e w3 ⟨hb3, bv, hl3, rfl, hv3, hg3⟩
              have HM23 : Hid (Mod nob w2 w3) := mod_of_below hb3
              have HM3 : Hid (Mod nob w w3) := HM2.out.step HM23.out (fun _ h => h)
              have HZ3 := Lib.hid (HZ2.out.mod HM23.out (fun h => h))
              have HI3 := Lib.hid (HI2.out.mod HM23.out (fun h => h))
              have HSI : Hid (w2.heap.size > B) := HI2.out.lt
              have HTH4 : Hid (w3.there B 4 (l.map (Value.int .i64)).toArray.size) := by
                unfold Hid; rw [show (l.map (Value.int .i64)).toArray.size = 13 by simp [hl3]]; exact HI3.out.there4
              have HISZ4 : Hid ((Try.prog.info? 22).map (·.size) = some (l.map (Value.int .i64)).toArray.size) := by
                unfold Hid; rw [show (l.map (Value.int .i64)).toArray.size = 13 by simp [hl3]]; exact Try.info13
              have HONE4 : Hid ((l.map (Value.int .i64)).toArray.all (·.oneCell') = true) := all_oneCell_toArray (ints_oneCell _ _)
              have HM34 : Hid (Mod (fun b => b = B) w3 (w3.setCells B 4 (l.map (Value.int .i64)))) := Mod.setCells (D := fun b => b = B) B (.inl rfl) _ _ _ (Mod.refl (fun b => b = B) w3)
              have HM4 : Hid (Mod nob w (w3.setCells B 4 (l.map (Value.int .i64)))) := Mod.setCells B (.inr (Nat.le_of_lt HBG.out)) _ _ _ HM3.out
              have HRD : Hid (Rd2Mid w (w3.setCells B 4 (l.map (Value.int .i64))) B S at_ (rd2 S i) { headN S (at_ : Int) with bl := l } (.slice none 0 0) bv own false) := by
                refine ⟨HI3.out.setBls l hl3, HZ3.out.mod HM34.out (by have := HBG.out; omega), HoldsE.nil _, ?_, HM4.out, (fun g hg => by cases hg), ?_, ?_, ?_, ?_⟩
                · exact hv3.mod HM34.out (fun _ g hg e => by have := hg3 g hg; have := HSI.out; omega)
                · intro g hg; have := hg3 g hg; have h2 := HM2.out.size; have := HSI.out; have := HBG.out; omega
                · intro _; exact headN_blok HOK.out _ hl3 HLAW.out.2.1
                · exact HLAW.out.2.2
                · exact HS.out
              clear hb3 hl3 hv3 hg3
              go_wp2_with (with_reducible refine wpList_store_mid (op := ⟨none, _, _, _, _, _⟩) rfl 22 _ _ rfl B 4 (l.map (Value.int .i64)).toArray rfl rfl HTH4.out HISZ4.out HONE4.out ?_)
              go_meet
              case rel => exact ⟨_, _, _, _, rfl, HRD⟩
            | true =>
              go_wp2_with fail
              refine HR2.out.mono ?_
              rintro e w3 ⟨hb3, bv, hl3, rfl, hv3, hg3⟩
              have HM23 : Hid (Mod nob w2 w3) := mod_of_below hb3
              have HM3 : Hid (Mod nob w w3) := HM2.out.step HM23.out (fun _ h => h)
              have HZ3 := Lib.hid (HZ2.out.mod HM23.out (fun h => h))
              have HI3 := Lib.hid (HI2.out.mod HM23.out (fun h => h))
              have HSI : Hid (w2.heap.size > B) := HI2.out.lt
              have HTH4 : Hid (w3.there B 4 (l.map (Value.int .i64)).toArray.size) := by
                unfold Hid; rw [show (l.map (Value.int .i64)).toArray.size = 13 by simp [hl3]]; exact HI3.out.there4
              have HISZ4 : Hid ((Try.prog.info? 22).map (·.size) = some (l.map (Value.int .i64)).toArray.size) := by
                unfold Hid; rw [show (l.map (Value.int .i64)).toArray.size = 13 by simp [hl3]]; exact Try.info13
              have HONE4 : Hid ((l.map (Value.int .i64)).toArray.all (·.oneCell') = true) := all_oneCell_toArray (ints_oneCell _ _)
              have HM34 : Hid (Mod (fun b => b = B) w3 (w3.setCells B 4 (l.map (Value.int .i64)))) := Mod.setCells (D := fun b => b = B) B (.inl rfl) _ _ _ (Mod.refl (fun b => b = B) w3)
              have HM4 : Hid (Mod nob w (w3.setCells B 4 (l.map (Value.int .i64)))) := Mod.setCells B (.inr (Nat.le_of_lt HBG.out)) _ _ _ HM3.out
              have HRD : Hid (Rd2Mid w (w3.setCells B 4 (l.map (Value.int .i64))) B S at_ (rd2 S i) { headN S (at_ : Int) with bl := l } (.slice none 0 0) bv own true) := by
                refine ⟨HI3.out.setBls l hl3, HZ3.out.mod HM34.out (by have := HBG.out; omega), HoldsE.nil _, ?_, HM4.out, (fun g hg => by cases hg), ?_, ?_, ?_, ?_⟩
                · exact hv3.mod HM34.out (fun _ g hg e => by have := hg3 g hg; have := HSI.out; omega)
                · intro g hg; have := hg3 g hg; have h2 := HM2.out.size; have := HSI.out; have := HBG.out; omega
                · intro _; exact headN_blok HOK.out _ hl3 HLAW.out.2.1
                · exact HLAW.out.2.2
                · exact HS.out
              clear hb3 hl3 hv3 hg3
              go_wp2_with (with_reducible refine wpList_store_mid (op := ⟨none, _, _, _, _, _⟩) rfl 22 _ _ rfl B 4 (l.map (Value.int .i64)).toArray rfl rfl HTH4.out HISZ4.out HONE4.out ?_)
              go_meet
              case rel => exact ⟨_, _, _, _, rfl, HRD⟩
        · have hk1b : (kd == 1) = false := beq_false_of_ne hk1
          rw [if_neg hk1] at HFB
          by_cases hk2 : kd = 2
          · subst hk2
            rw [if_pos rfl] at HFB
            cases hr : names2To S at_ 4 with
            | none =>
              rw [hr] at HN2 HFB
              have HS : Hid (rd2 S i = none) := by
                unfold Hid; rw [HFB.out]; cases fb <;> rfl
              clear hr HFB HR2
              cases fb with
              | false =>
                go_wp2_with fail
                refine HN2.out.mono ?_
                rintro e w3 ⟨hb3, rfl⟩
                have HM23 : Hid (Mod nob w2 w3) := mod_of_below hb3
                have HM3 : Hid (Mod nob w w3) := HM2.out.step HM23.out (fun _ h => h)
                have HZ3 := Lib.hid (HZ2.out.mod HM23.out (fun h => h))
                have HI3 := Lib.hid (HI2.out.mod HM23.out (fun h => h))
                have HSI : Hid (w2.heap.size > B) := HI2.out.lt
                have c17 := HI3.out.at.ev
                have f17 := HI3.out.frozen 17
                have HM34 : Hid (Mod (fun b => b = B) w3 (w3.setCell ⟨B, 17, none⟩ (.slice none 0 0))) := (Mod.refl (fun b => b = B) w3).setCell (a := ⟨B, 17, none⟩) (.inl rfl) _
                have HM4 : Hid (Mod nob w (w3.setCell ⟨B, 17, none⟩ (.slice none 0 0))) := HM3.out.setCell (a := ⟨B, 17, none⟩) (.inr (Nat.le_of_lt HBG.out)) _
                have HRD : Hid (Rd2Mid w (w3.setCell ⟨B, 17, none⟩ (.slice none 0 0)) B S at_ (rd2 S i) { headN S (at_ : Int) with ents := [] } (.slice none 0 0) (.slice none 0 0) [] false) := by
                  refine ⟨HI3.out.setEv [] (.slice none 0 0), HZ3.out.mod HM34.out (by have := HBG.out; omega), ?_, ?_, HM4.out, ?_, ?_, ?_, ?_, ?_⟩
                  · exact HoldsE.nil _
                  · exact HoldsN.nil _
                  · intro g hg; cases hg
                  · intro g hg; cases hg
                  · intro h; cases h
                  · intro b hb; cases hb
                  · rw [HS.out, if_neg (by simp)]
                clear hb3
                go_wp2_with fail
                go_meet
                case rel => exact ⟨_, _, _, _, rfl, HRD⟩
              | true =>
                go_wp2_with fail
                refine HN2.out.mono ?_
                rintro e w3 ⟨hb3, rfl⟩
                have HM23 : Hid (Mod nob w2 w3) := mod_of_below hb3
                have HM3 : Hid (Mod nob w w3) := HM2.out.step HM23.out (fun _ h => h)
                have HZ3 := Lib.hid (HZ2.out.mod HM23.out (fun h => h))
                have HI3 := Lib.hid (HI2.out.mod HM23.out (fun h => h))
                have HSI : Hid (w2.heap.size > B) := HI2.out.lt
                have c17 := HI3.out.at.ev
                have f17 := HI3.out.frozen 17
                have HM34 : Hid (Mod (fun b => b = B) w3 (w3.setCell ⟨B, 17, none⟩ (.slice none 0 0))) := (Mod.refl (fun b => b = B) w3).setCell (a := ⟨B, 17, none⟩) (.inl rfl) _
                have HM4 : Hid (Mod nob w (w3.setCell ⟨B, 17, none⟩ (.slice none 0 0))) := HM3.out.setCell (a := ⟨B, 17, none⟩) (.inr (Nat.le_of_lt HBG.out)) _
                have HRD : Hid (Rd2Mid w (w3.setCell ⟨B, 17, none⟩ (.slice none 0 0)) B S at_ (rd2 S i) { headN S (at_ : Int) with ents := [] } (.slice none 0 0) (.slice none 0 0) [] false) := by
                  refine ⟨HI3.out.setEv [] (.slice none 0 0), HZ3.out.mod HM34.out (by have := HBG.out; omega), ?_, ?_, HM4.out, ?_, ?_, ?_, ?_, ?_⟩
                  · exact HoldsE.nil _
                  · exact HoldsN.nil _
                  · intro g hg; cases hg
                  · intro g hg; cases hg
                  · intro h; cases h
                  · intro b hb; cases hb
                  · rw [HS.out, if_neg (by simp)]
                clear hb3
                go_wp2_with fail
                go_meet
                case rel => exact ⟨_, _, _, _, rfl, HRD⟩
            | some r =>
              obtain ⟨out, own⟩ := r
              rw [hr] at HN2 HFB
              have HLAW := Lib.hid (names2_law HOK.out at_ 4 _ hr)
              have HS : Hid (rd2 S i = if fb = true then finR2 S at_ { headN S (at_ : Int) with ents := out } own else none) := HFB.out
              clear hr HFB HR2
              cases fb with
              | false =>
                go_wp2_with fail
                refine HN2.out.mono ?_
                rintro e w3 ⟨hb3, ev, bv, rfl, hnr⟩
                have HM23 : Hid (Mod nob w2 w3) := mod_of_below hb3
                have HM3 : Hid (Mod nob w w3) := HM2.out.step HM23.out (fun _ h => h)
                have HZ3 := Lib.hid (HZ2.out.mod HM23.out (fun h => h))
                have HI3 := Lib.hid (HI2.out.mod HM23.out (fun h => h))
                have HSI : Hid (w2.heap.size > B) := HI2.out.lt
                have c17 := HI3.out.at.ev
                have f17 := HI3.out.frozen 17
                have ho := hnr.o9
                have hv := hnr.o10
                have hge := own_ge ho
                have hgv := own_ge hv
                obtain ⟨va, vc, rfl, -, -, -⟩ := own_shape ho
                obtain ⟨ua, uc, rfl, -, -, -⟩ := own_shape hv
                have HM34 : Hid (Mod (fun b => b = B) w3 (w3.setCell ⟨B, 17, none⟩ (.slice va out.length vc))) := (Mod.refl (fun b => b = B) w3).setCell (a := ⟨B, 17, none⟩) (.inl rfl) _
                have HM4 : Hid (Mod nob w (w3.setCell ⟨B, 17, none⟩ (.slice va out.length vc))) := HM3.out.setCell (a := ⟨B, 17, none⟩) (.inr (Nat.le_of_lt HBG.out)) _
                have HRD : Hid (Rd2Mid w (w3.setCell ⟨B, 17, none⟩ (.slice va out.length vc)) B S at_ (rd2 S i) { headN S (at_ : Int) with ents := out } (.slice va out.length vc) (.slice ua own.length uc) own false) := by
                  refine ⟨HI3.out.setEv out (.slice va out.length vc), HZ3.out.mod HM34.out (by have := HBG.out; omega), ?_, ?_, HM4.out, ?_, ?_, ?_, ?_, ?_⟩
                  · exact (holdsE_of_own rfl ho).mod HM34.out (fun _ g hg e => by have := hge g hg; have := HSI.out; omega)
                  · exact (holdsN_of_own rfl hv).mod HM34.out (fun _ g hg e => by have := hgv g hg; have := HSI.out; omega)
                  · intro g hg; have := hge g hg; have h2 := HM2.out.size; have := HSI.out; have := HBG.out; omega
                  · intro g hg; have := hgv g hg; have h2 := HM2.out.size; have := HSI.out; have := HBG.out; omega
                  · intro _; exact headN_ents HOK.out _ HLAW.out.1
                  · exact HLAW.out.2
                  · exact HS.out
                obtain ⟨no, hno⟩ : ∃ no, no = out.length := ⟨_, rfl⟩
                obtain ⟨nw, hnw⟩ : ∃ nw, nw = own.length := ⟨_, rfl⟩
                rw [← hno, ← hnw] at HRD
                rw [← hno, ← hnw]
                clear hb3 ho hv hge hgv hnr hno hnw
                go_wp2_with fail
                go_meet
                case rel => exact ⟨_, _, _, _, rfl, HRD⟩
              | true =>
                go_wp2_with fail
                refine HN2.out.mono ?_
                rintro e w3 ⟨hb3, ev, bv, rfl, hnr⟩
                have HM23 : Hid (Mod nob w2 w3) := mod_of_below hb3
                have HM3 : Hid (Mod nob w w3) := HM2.out.step HM23.out (fun _ h => h)
                have HZ3 := Lib.hid (HZ2.out.mod HM23.out (fun h => h))
                have HI3 := Lib.hid (HI2.out.mod HM23.out (fun h => h))
                have HSI : Hid (w2.heap.size > B) := HI2.out.lt
                have c17 := HI3.out.at.ev
                have f17 := HI3.out.frozen 17
                have ho := hnr.o9
                have hv := hnr.o10
                have hge := own_ge ho
                have hgv := own_ge hv
                obtain ⟨va, vc, rfl, -, -, -⟩ := own_shape ho
                obtain ⟨ua, uc, rfl, -, -, -⟩ := own_shape hv
                have HM34 : Hid (Mod (fun b => b = B) w3 (w3.setCell ⟨B, 17, none⟩ (.slice va out.length vc))) := (Mod.refl (fun b => b = B) w3).setCell (a := ⟨B, 17, none⟩) (.inl rfl) _
                have HM4 : Hid (Mod nob w (w3.setCell ⟨B, 17, none⟩ (.slice va out.length vc))) := HM3.out.setCell (a := ⟨B, 17, none⟩) (.inr (Nat.le_of_lt HBG.out)) _
                have HRD : Hid (Rd2Mid w (w3.setCell ⟨B, 17, none⟩ (.slice va out.length vc)) B S at_ (rd2 S i) { headN S (at_ : Int) with ents := out } (.slice va out.length vc) (.slice ua own.length uc) own true) := by
                  refine ⟨HI3.out.setEv out (.slice va out.length vc), HZ3.out.mod HM34.out (by have := HBG.out; omega), ?_, ?_, HM4.out, ?_, ?_, ?_, ?_, ?_⟩
                  · exact (holdsE_of_own rfl ho).mod HM34.out (fun _ g hg e => by have := hge g hg; have := HSI.out; omega)
                  · exact (holdsN_of_own rfl hv).mod HM34.out (fun _ g hg e => by have := hgv g hg; have := HSI.out; omega)
                  · intro g hg; have := hge g hg; have h2 := HM2.out.size; have := HSI.out; have := HBG.out; omega
                  · intro g hg; have := hgv g hg; have h2 := HM2.out.size; have := HSI.out; have := HBG.out; omega
                  · intro _; exact headN_ents HOK.out _ HLAW.out.1
                  · exact HLAW.out.2
                  · exact HS.out
                obtain ⟨no, hno⟩ : ∃ no, no = out.length := ⟨_, rfl⟩
                obtain ⟨nw, hnw⟩ : ∃ nw, nw = own.length := ⟨_, rfl⟩
                rw [← hno, ← hnw] at HRD
                rw [← hno, ← hnw]
                clear hb3 ho hv hge hgv hnr hno hnw
                go_wp2_with fail
                go_meet
                case rel => exact ⟨_, _, _, _, rfl, HRD⟩
          · have hk2b : (kd == 2) = false := beq_false_of_ne hk2
            rw [if_neg hk2] at HFB
            have HRD : Hid (Rd2Mid w w2 B S at_ (rd2 S i) (headN S (at_ : Int)) (.slice none 0 0) (.slice none 0 0) [] fb) :=
              ⟨HI2.out, HZ2.out, HoldsE.nil _, HoldsN.nil _, HM2.out, (fun g hg => by cases hg), (fun g hg => by cases hg), fun _ => HNOK.out, (fun b hb => by cases hb), HFB.out⟩
            clear HFB HN2 HR2
            go_wp2_with fail
            go_meet
            case rel => exact ⟨_, _, _, _, rfl, HRD⟩
      case rest =>
        obtain ⟨m, ev, own, okb, rfl, HMC⟩ := hcut
        obtain ⟨w6, rfl⟩ : ∃ w6 : World, w6 = wc := ⟨_, rfl⟩
        clear HI2 HZ2 HM2 HFB HR2 HN2 c0 c1 HF HKD
        obtain ⟨ta, tc, rfl, t1, t2, -, -⟩ := HMC.out.hv
        obtain ⟨ea, ec, rfl, e1, e2, -, -⟩ := HMC.out.he
        obtain ⟨M, hM⟩ : ∃ M, M = own.length := ⟨_, rfl⟩
        obtain ⟨L, hL⟩ : ∃ L, L = m.ents.length := ⟨_, rfl⟩
        rw [← hM] at t1 HMC
        rw [← hL] at e1 HMC
        rw [← hM]
        unfold maxLen at t2 e2
        clear hM hL
        have HLM : Hid (m.bl.length = 13) := HMC.out.ino.2
        obtain ⟨b1, hb1⟩ : ∃ b, b = rightB m := ⟨_, rfl⟩
        obtain ⟨b3, hb3⟩ : ∃ b, b = exactT S at_ m own := ⟨_, rfl⟩
        have hiff : (b1 = true ∧ b3 = true) ↔ (RightP m ∧ ExactT S at_ m own) := by
          rw [hb1, hb3, rightB_iff, exactT_iff]
        have HWIN : Hid (okb = true ∧ b1 = true ∧ b3 = true → rd2 S i = some (m, own)) := fun hh => by
          rw [HMC.out.res, if_pos hh.1]; unfold finR2; rw [if_pos (hiff.1 hh.2)]
        have HFAIL : Hid (¬ (okb = true ∧ b1 = true ∧ b3 = true) → rd2 S i = none) := fun hh => by
          rw [HMC.out.res]
          by_cases ho : okb = true
          · rw [if_pos ho]; unfold finR2; rw [if_neg (fun h => hh ⟨ho, hiff.2 h⟩)]
          · rw [if_neg ho]
        have HRI : Hid (okb = true → ∀ wx, Mod nob w6 wx → Calls Try.prog 54 #[.agg (inoL m (.slice ea L ec)).toArray] wx fun e w' => e = .returned (.bool b1) ∧ Below wx.heap.size wx w') := fun ho wx hm => by
          rw [hb1]
          exact right_any (HMC.out.ok ho) (HMC.out.he.mod hm (fun _ _ _ h => h))
        have HEX : Hid (b1 = true → ∀ wx, okb = true → Mod nob w6 wx → Calls Try.prog 101 #[.pointer (some ⟨p, 0, none⟩), .int .i64 (at_ : Nat), .agg (inoL m (.slice ea L ec)).toArray, .slice ta M tc] wx fun e w' => e = .returned (.bool b3) ∧ Below wx.heap.size wx w') := fun hr1 wx ho hm => by
          rw [hb3]
          have hrp : RightP m := by rw [hb1] at hr1; exact (rightB_iff m).1 hr1
          exact exactT_any (HSH.out.mod (HMC.out.mod.step hm (fun _ h => h)) (fun _ _ h => h)) at_ HA3.out (HMC.out.ok ho) (HMC.out.he.mod hm (fun _ _ _ h => h)) (HMC.out.hv.mod hm (fun _ _ _ h => h)) HMC.out.lt hrp
        have HRG := Lib.hid (HMC.out.ino.at.range HLM.out)
        have HSZI : Hid ((Try.prog.info? 25).map (·.size) = some (inoL m (.slice ea L ec)).length) := by
          unfold Hid
          rw [inoL_len HLM.out]
          exact Try.info18
        have HX : Hid (Mod nob w6 w6) := Mod.refl nob w6
        clear hb1 hb3 hiff
        by_cases hwin : okb = true ∧ b1 = true ∧ b3 = true
        · have HRES := Lib.hid (HWIN.out hwin)
          obtain ⟨rfl, rfl, rfl⟩ := hwin
          have HRI2 := Lib.hid (HRI.out rfl)
          have HEX2 : Hid (∀ wx, Mod nob w6 wx → Calls Try.prog 101 #[.pointer (some ⟨p, 0, none⟩), .int .i64 (at_ : Nat), .agg (inoL m (.slice ea L ec)).toArray, .slice ta M tc] wx fun e w' => e = .returned (.bool true) ∧ Below wx.heap.size wx w') := fun wx hm => HEX.out rfl wx rfl hm
          clear HWIN HFAIL HRI HEX
          go_upto_region 19 with (first
              | (with_reducible refine wpList_load_mid (op := ⟨some 76, _, _, _, _, _⟩) rfl 25 _ rfl B 0 rfl (inoL m (.slice ea L ec)) _ HRG.out Try.underlying25 rfl HSZI.out ?_)
              | (refine wpList_unguard (o := ⟨some 76, _, _, _, _, _⟩) (by rfl) ?_)
              | (with_reducible refine wpList_load_mid (op := ⟨some 83, _, _, _, _, _⟩) rfl 25 _ rfl B 0 rfl (inoL m (.slice ea L ec)) _ HRG.out Try.underlying25 rfl HSZI.out ?_)
              | (refine wpList_unguard (o := ⟨some 83, _, _, _, _, _⟩) (by rfl) ?_)
              | (go_at_call 54; with_reducible refine (HRI2.out _ HX.out).mono ?_; rintro e wz ⟨rfl, hbz⟩; have HX := Lib.hid (HX.out.step (mod_of_below hbz) (fun _ h => h)); clear hbz; have HRG := Lib.hid ((HMC.out.ino.mod HX.out (fun h => h)).at.range HLM.out))
              | (go_at_call 101; with_reducible refine (HEX2.out _ HX.out).mono ?_; rintro e wz ⟨rfl, hbz⟩; have HX := Lib.hid (HX.out.step (mod_of_below hbz) (fun _ h => h)); clear hbz; have HRG := Lib.hid ((HMC.out.ino.mod HX.out (fun h => h)).at.range HLM.out)))
          have HZX := Lib.hid (HMC.out.z.mod HX.out (fun h => h))
          have HMX := Lib.hid (HMC.out.mod.step HX.out (fun _ h => h))
          have hszA : (inoL m (.slice ea L ec)).toArray.size = 18 := by simp [inoL_len HLM.out]
          have HTH : Hid (wz.there w.heap.size 0 (inoL m (.slice ea L ec)).toArray.size) := by
            unfold Hid; rw [hszA]; exact HZX.out.there
          have HISZ : Hid ((Try.prog.info? 25).map (·.size) = some (inoL m (.slice ea L ec)).toArray.size) := by
            unfold Hid; rw [hszA]; exact Try.info18
          have HONE : Hid ((inoL m (.slice ea L ec)).toArray.all (·.oneCell') = true) := all_oneCell_toArray (inoL_one rfl)
          have HEND : Hid (Mod (fun b => b = w.heap.size) wz (wz.setCells w.heap.size 0 (inoL m (.slice ea L ec)))) := Mod.setCells (D := fun b => b = w.heap.size) w.heap.size (.inl rfl) _ _ _ (Mod.refl (fun b => b = w.heap.size) wz)
          have HI1 := Lib.hid (HZX.out.whole (m := m) (ev' := .slice ea L ec) HLM.out)
          have HBE : Hid (Below w.heap.size w (wz.setCells w.heap.size 0 (inoL m (.slice ea L ec)))) := (nob_mod_below HMX.out).trans (Lib.below_setCells_w (Nat.le_refl _) _ _ _)
          have HE1 : Hid (HoldsE (wz.setCells w.heap.size 0 (inoL m (.slice ea L ec))) (.slice ea L ec) m.ents) := (HMC.out.he.mod HX.out (fun _ _ _ h => h)).mod HEND.out (fun _ g hg => by have := HMC.out.ef g hg; omega)
          have HN1 : Hid (HoldsN (wz.setCells w.heap.size 0 (inoL m (.slice ea L ec))) (.slice ta M tc) own) := (HMC.out.hv.mod HX.out (fun _ _ _ h => h)).mod HEND.out (fun _ g hg => by have := HMC.out.vf g hg; omega)
          clear hszA
          go_cut [5, 6, 89, 90] (fun v5 v6 _ _ wc => v5 = .slice ta M tc ∧ v6 = .bool true ∧ Hid (InoB wc w.heap.size m (.slice ea L ec)) ∧ Hid (Below w.heap.size w wc) ∧ Hid (HoldsE wc (.slice ea L ec) m.ents) ∧ Hid (HoldsN wc (.slice ta M tc) own))
          case first =>
            go_wp2_with (first
              | (with_reducible refine wpList_load_mid (op := ⟨some 89, _, _, _, _, _⟩) rfl 25 _ rfl B 0 rfl (inoL m (.slice ea L ec)) _ HRG.out Try.underlying25 rfl HSZI.out ?_)
              | (with_reducible refine wpList_store_mid (op := ⟨none, _, _, _, _, _⟩) rfl 25 _ _ rfl w.heap.size 0 (inoL m (.slice ea L ec)).toArray rfl rfl HTH.out HISZ.out HONE.out ?_))
            go_meet
            case rel => exact ⟨rfl, rfl, HI1.out, HBE.out, HE1.out, HN1.out⟩
          case rest =>
            obtain ⟨rfl, rfl, HIA, HBE, HE2, HN2⟩ := hcut
            have hlv := run_loadVar_mid (P := Try.prog) wc w.heap.size 0 25 _ _ (HIA.out.at.range HLM.out) Try.underlying25 rfl (by rw [inoL_len HLM.out]; exact Try.info18)
            have HLV := Lib.hid hlv
            clear hlv
            go_wp2_with fail
            rw [HRES.out]
            refine bodyPost_ret (v := .tuple #[.agg (inoL m (.slice ea L ec)).toArray, .slice ta M tc, .bool true]) ?_ rfl ⟨HBE.out, _, _, rfl, HE2.out, HN2.out, fun g hg => Nat.le_of_lt (HMC.out.ef g hg), fun g hg => Nat.le_of_lt (HMC.out.vf g hg)⟩
            have hlv := HLV.out
            simp [results, Try.results61, asAddr, hlv]
        · have HRES := Lib.hid (HFAIL.out hwin)
          have hthree := three_no hwin
          clear HWIN HFAIL hwin
          rcases hthree with rfl | ⟨rfl, rfl⟩ | ⟨rfl, rfl, rfl⟩
          · clear HRI HEX
            go_upto_region 18 with (fail)
            have HZX := Lib.hid (HMC.out.z.mod HX.out (fun h => h))
            have HMX := Lib.hid (HMC.out.mod.step HX.out (fun _ h => h))
            have HTH : Hid (w6.there w.heap.size 0 (z18).size) := HZX.out.there
            have HI1 := Lib.hid (HZX.out.whole (m := ino0) (ev' := .slice none 0 0) rfl)
            go_cut [5, 6, 88] (fun v5 v6 _ wc => v5 = .slice none 0 0 ∧ v6 = .bool false ∧ Hid (InoB wc w.heap.size ino0 (.slice none 0 0)) ∧ Hid (Below w.heap.size w wc))
            case first =>
              go_wp2_with (with_reducible refine wpList_store_mid (op := ⟨none, _, _, _, _, _⟩) rfl 25 _ _ rfl w.heap.size 0 z18 rfl rfl HTH.out HISZ0.out HONE0.out ?_)
              go_meet
              case rel => exact ⟨rfl, rfl, HI1.out, (nob_mod_below HMX.out).trans (Lib.below_setCells_w (Nat.le_refl _) _ _ _)⟩
            case rest =>
              obtain ⟨rfl, rfl, HIA, HBE⟩ := hcut
              have hlv := run_loadVar_mid (P := Try.prog) wc w.heap.size 0 25 _ _ (HIA.out.at.range rfl) Try.underlying25 rfl (by rw [inoL_len rfl]; exact Try.info18)
              have HLV := Lib.hid hlv
              clear hlv
              go_wp2_with fail
              rw [HRES.out]
              refine bodyPost_ret (v := .tuple #[.agg (inoL ino0 (.slice none 0 0)).toArray, .slice none 0 0, .bool false]) ?_ rfl ⟨HBE.out, rfl⟩
              have hlv := HLV.out
              simp [results, Try.results61, asAddr, hlv]
          · have HRI2 := Lib.hid (HRI.out rfl)
            clear HRI HEX
            go_upto_region 18 with (first
                | (with_reducible refine wpList_load_mid (op := ⟨some 76, _, _, _, _, _⟩) rfl 25 _ rfl B 0 rfl (inoL m (.slice ea L ec)) _ HRG.out Try.underlying25 rfl HSZI.out ?_)
                | (refine wpList_unguard (o := ⟨some 76, _, _, _, _, _⟩) (by rfl) ?_)
                | (with_reducible refine wpList_load_mid (op := ⟨some 83, _, _, _, _, _⟩) rfl 25 _ rfl B 0 rfl (inoL m (.slice ea L ec)) _ HRG.out Try.underlying25 rfl HSZI.out ?_)
                | (refine wpList_unguard (o := ⟨some 83, _, _, _, _, _⟩) (by rfl) ?_)
                | (go_at_call 54; with_reducible refine (HRI2.out _ HX.out).mono ?_; rintro e wz ⟨rfl, hbz⟩; have HX := Lib.hid (HX.out.step (mod_of_below hbz) (fun _ h => h)); clear hbz; have HRG := Lib.hid ((HMC.out.ino.mod HX.out (fun h => h)).at.range HLM.out))
                | (go_at_call 101; with_reducible refine (HEX2.out _ HX.out).mono ?_; rintro e wz ⟨rfl, hbz⟩; have HX := Lib.hid (HX.out.step (mod_of_below hbz) (fun _ h => h)); clear hbz; have HRG := Lib.hid ((HMC.out.ino.mod HX.out (fun h => h)).at.range HLM.out)))
            have HZX := Lib.hid (HMC.out.z.mod HX.out (fun h => h))
            have HMX := Lib.hid (HMC.out.mod.step HX.out (fun _ h => h))
            have HTH : Hid (wz.there w.heap.size 0 (z18).size) := HZX.out.there
            have HI1 := Lib.hid (HZX.out.whole (m := ino0) (ev' := .slice none 0 0) rfl)
            go_cut [5, 6, 88] (fun v5 v6 _ wc => v5 = .slice none 0 0 ∧ v6 = .bool false ∧ Hid (InoB wc w.heap.size ino0 (.slice none 0 0)) ∧ Hid (Below w.heap.size w wc))
            case first =>
              go_wp2_with (with_reducible refine wpList_store_mid (op := ⟨none, _, _, _, _, _⟩) rfl 25 _ _ rfl w.heap.size 0 z18 rfl rfl HTH.out HISZ0.out HONE0.out ?_)
              go_meet
              case rel => exact ⟨rfl, rfl, HI1.out, (nob_mod_below HMX.out).trans (Lib.below_setCells_w (Nat.le_refl _) _ _ _)⟩
            case rest =>
              obtain ⟨rfl, rfl, HIA, HBE⟩ := hcut
              have hlv := run_loadVar_mid (P := Try.prog) wc w.heap.size 0 25 _ _ (HIA.out.at.range rfl) Try.underlying25 rfl (by rw [inoL_len rfl]; exact Try.info18)
              have HLV := Lib.hid hlv
              clear hlv
              go_wp2_with fail
              rw [HRES.out]
              refine bodyPost_ret (v := .tuple #[.agg (inoL ino0 (.slice none 0 0)).toArray, .slice none 0 0, .bool false]) ?_ rfl ⟨HBE.out, rfl⟩
              have hlv := HLV.out
              simp [results, Try.results61, asAddr, hlv]
          · have HRI2 := Lib.hid (HRI.out rfl)
            have HEX2 : Hid (∀ wx, Mod nob w6 wx → Calls Try.prog 101 #[.pointer (some ⟨p, 0, none⟩), .int .i64 (at_ : Nat), .agg (inoL m (.slice ea L ec)).toArray, .slice ta M tc] wx fun e w' => e = .returned (.bool false) ∧ Below wx.heap.size wx w') := fun wx hm => HEX.out rfl wx rfl hm
            clear HRI HEX
            go_upto_region 18 with (first
                | (with_reducible refine wpList_load_mid (op := ⟨some 76, _, _, _, _, _⟩) rfl 25 _ rfl B 0 rfl (inoL m (.slice ea L ec)) _ HRG.out Try.underlying25 rfl HSZI.out ?_)
                | (refine wpList_unguard (o := ⟨some 76, _, _, _, _, _⟩) (by rfl) ?_)
                | (with_reducible refine wpList_load_mid (op := ⟨some 83, _, _, _, _, _⟩) rfl 25 _ rfl B 0 rfl (inoL m (.slice ea L ec)) _ HRG.out Try.underlying25 rfl HSZI.out ?_)
                | (refine wpList_unguard (o := ⟨some 83, _, _, _, _, _⟩) (by rfl) ?_)
                | (go_at_call 54; with_reducible refine (HRI2.out _ HX.out).mono ?_; rintro e wz ⟨rfl, hbz⟩; have HX := Lib.hid (HX.out.step (mod_of_below hbz) (fun _ h => h)); clear hbz; have HRG := Lib.hid ((HMC.out.ino.mod HX.out (fun h => h)).at.range HLM.out))
                | (go_at_call 101; with_reducible refine (HEX2.out _ HX.out).mono ?_; rintro e wz ⟨rfl, hbz⟩; have HX := Lib.hid (HX.out.step (mod_of_below hbz) (fun _ h => h)); clear hbz; have HRG := Lib.hid ((HMC.out.ino.mod HX.out (fun h => h)).at.range HLM.out)))
            have HZX := Lib.hid (HMC.out.z.mod HX.out (fun h => h))
            have HMX := Lib.hid (HMC.out.mod.step HX.out (fun _ h => h))
            have HTH : Hid (wz.there w.heap.size 0 (z18).size) := HZX.out.there
            have HI1 := Lib.hid (HZX.out.whole (m := ino0) (ev' := .slice none 0 0) rfl)
            go_cut [5, 6, 88] (fun v5 v6 _ wc => v5 = .slice none 0 0 ∧ v6 = .bool false ∧ Hid (InoB wc w.heap.size ino0 (.slice none 0 0)) ∧ Hid (Below w.heap.size w wc))
            case first =>
              go_wp2_with (with_reducible refine wpList_store_mid (op := ⟨none, _, _, _, _, _⟩) rfl 25 _ _ rfl w.heap.size 0 z18 rfl rfl HTH.out HISZ0.out HONE0.out ?_)
              go_meet
              case rel => exact ⟨rfl, rfl, HI1.out, (nob_mod_below HMX.out).trans (Lib.below_setCells_w (Nat.le_refl _) _ _ _)⟩
            case rest =>
              obtain ⟨rfl, rfl, HIA, HBE⟩ := hcut
              have hlv := run_loadVar_mid (P := Try.prog) wc w.heap.size 0 25 _ _ (HIA.out.at.range rfl) Try.underlying25 rfl (by rw [inoL_len rfl]; exact Try.info18)
              have HLV := Lib.hid hlv
              clear hlv
              go_wp2_with fail
              rw [HRES.out]
              refine bodyPost_ret (v := .tuple #[.agg (inoL ino0 (.slice none 0 0)).toArray, .slice none 0 0, .bool false]) ?_ rfl ⟨HBE.out, rfl⟩
              have hlv := HLV.out
              simp [results, Try.results61, asAddr, hlv]
end Go.Proofs.Ytlopdbhjdijlmaa
