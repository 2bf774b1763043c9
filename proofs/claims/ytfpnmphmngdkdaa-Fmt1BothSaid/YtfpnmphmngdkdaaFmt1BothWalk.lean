/-
  The law Fmt1Both: the walk. No condition.
-/
import Derived.Test.YtfpnmphmngdkdaaRd1
import Derived.Test.YtfpnmphmngdkdaaLayAny
import Derived.Test.YtfpnmphmngdkdaaFew6
namespace Go.Proofs.Ytfpnmphmngdkdaa
open Go.ChangeShapes Go.WideShapes Go.ChangeAt Go.RowKit
set_option linter.unusedSimpArgs false
set_option linter.unusedVariables false

set_option maxRecDepth 20000 in
set_option maxHeartbeats 8000000 in
theorem law_both {w : World} {a b : Ino} {ev fv : Value} (ha : a.Ok) (hb : b.Ok) (he : HoldsE w ev a.ents) (hf : HoldsE w fv b.ents) :
    Calls Try.prog 4 #[.agg (inoA a ev), .agg (inoA b fv)] w fun e w' => e = .returned (.bool true) ∧ Below w.heap.size w w' := by
  have HAO := Lib.hid ha
  have HBO := Lib.hid hb
  have HBEL : Hid (Below w.heap.size w ((w.alloc (.cells (inoA a ev) 37)).alloc (.cells (inoA b fv) 37))) := ((Below.refl _ _).alloc (Nat.le_refl _) _).alloc (by simp) _
  have HA0 : Hid (InoB ((w.alloc (.cells (inoA a ev) 37)).alloc (.cells (inoA b fv) 37)) w.heap.size a ev) := (InoB.new w ha.len ev).mod ((Mod.refl nob _).alloc _) (fun h => h)
  have HB0 : Hid (InoB ((w.alloc (.cells (inoA a ev) 37)).alloc (.cells (inoA b fv) 37)) (w.heap.size + 1) b fv) := by
    have := InoB.new (w.alloc (.cells (inoA a ev) 37)) hb.len fv
    rw [show (w.alloc (.cells (inoA a ev) 37)).heap.size = w.heap.size + 1 by simp] at this
    exact this
  have HE := Lib.hid (he.below HBEL.out)
  have HF := Lib.hid (hf.below HBEL.out)
  have HLE : Hid (a.ents ≠ [] → ∀ g, ev.ownBlock = some g → g < w.heap.size) := he.lt
  have HLF : Hid (b.ents ≠ [] → ∀ g, fv.ownBlock = some g → g < w.heap.size) := hf.lt
  obtain ⟨ea, ec, rfl, -, -, -, -⟩ := he
  obtain ⟨fa, fc, rfl, -, -, -, -⟩ := hf
  obtain ⟨b1, hb1⟩ : ∃ x, x = fewB a := ⟨_, rfl⟩
  obtain ⟨b2, hb2⟩ : ∃ x, x = fewB b := ⟨_, rfl⟩
  have HFA : Hid (∀ wx, Mod nob ((w.alloc (.cells (inoA a (.slice ea a.ents.length ec)) 37)).alloc (.cells (inoA b (.slice fa b.ents.length fc)) 37)) wx → Calls Try.prog 22 #[.agg (inoL a (.slice ea a.ents.length ec)).toArray] wx fun e w' => e = .returned (.bool b1) ∧ Below wx.heap.size wx w') := fun wx hm => by
    rw [hb1]
    exact few6 HAO.out (HE.out.mod hm (fun _ _ _ h => h))
  have HFB : Hid (∀ wx, Mod nob ((w.alloc (.cells (inoA a (.slice ea a.ents.length ec)) 37)).alloc (.cells (inoA b (.slice fa b.ents.length fc)) 37)) wx → Calls Try.prog 22 #[.agg (inoL b (.slice fa b.ents.length fc)).toArray] wx fun e w' => e = .returned (.bool b2) ∧ Below wx.heap.size wx w') := fun wx hm => by
    rw [hb2]
    exact few6 HBO.out (HF.out.mod hm (fun _ _ _ h => h))
  have HSA : Hid ((Try.prog.info? 37).map (·.size) = some (inoL a (.slice ea a.ents.length ec)).length) := by
    unfold Hid; rw [inoL_len ha.len]; exact Try.info18
  have HSB : Hid ((Try.prog.info? 37).map (·.size) = some (inoL b (.slice fa b.ents.length fc)).length) := by
    unfold Hid; rw [inoL_len hb.len]; exact Try.info18
  have HAW : Hid (∀ wx, Calls Try.prog 21 #[] wx fun e w' => e = .returned (.bool true) ∧ Below wx.heap.size wx w') := fun wx => awake6 wx
  have HSH : Hid (∀ wx, Calls Try.prog 23 #[.agg #[.int .u64 0, .int .u64 0, .int .u64 0, .int .u64 0]] wx fun e w' => ∃ p, e = .returned (.pointer (some ⟨p, 0, none⟩)) ∧ SheetAt w' p (grow nob wx w') (S6 fun _ => 0) ∧ Below wx.heap.size wx w') := fun wx => sheet6_any (fun _ => 0) (fun _ => by omega)
  have hsz0 : ((w.alloc (.cells (inoA a (.slice ea a.ents.length ec)) 37)).alloc (.cells (inoA b (.slice fa b.ents.length fc)) 37)).heap.size = w.heap.size + 2 := by simp
  have HZ := Lib.hid hsz0
  clear ha hb hb1 hb2 hsz0
  go_enter Try.func4, Try.ntmps4
  go_wp2_with fail
  generalize (w.alloc (.cells (inoA a (.slice ea a.ents.length ec)) 37)).alloc (.cells (inoA b (.slice fa b.ents.length fc)) 37) = w0 at *
  obtain ⟨n0, hn0⟩ : ∃ n0, n0 = w.heap.size := ⟨_, rfl⟩
  have HN0 := Lib.hid hn0
  rw [← hn0] at HA0 HB0 HZ HLE HLF ⊢
  clear hn0
  have HX : Hid (Mod nob w0 w0) := Mod.refl nob w0
  refine (HAW.out _).mono ?_
  rintro e wz ⟨rfl, hbz⟩
  have HX := Lib.hid (HX.out.step (mod_of_below hbz) (fun _ h => h))
  clear hbz
  have HRA := Lib.hid ((HA0.out.mod HX.out (fun h => h)).at.range HAO.out.len)
  have HRB := Lib.hid ((HB0.out.mod HX.out (fun h => h)).at.range HBO.out.len)
  by_cases hfew : b1 = true ∧ b2 = true
  · obtain ⟨rfl, rfl⟩ := hfew
    go_upto_region 4 with (first
        | ((refine wpList_unguard (o := ⟨some 19, _, _, _, _, _⟩) (by rfl) ?_; with_reducible refine wpList_load_mid (op := ⟨some 19, _, _, _, _, _⟩) rfl 37 _ rfl (n0) 0 rfl (inoL a (.slice ea a.ents.length ec)) _ HRA.out Try.underlying37 rfl HSA.out ?_))
        | ((refine wpList_unguard (o := ⟨some 24, _, _, _, _, _⟩) (by rfl) ?_; with_reducible refine wpList_load_mid (op := ⟨some 24, _, _, _, _, _⟩) rfl 37 _ rfl (n0 + 1) 0 rfl (inoL b (.slice fa b.ents.length fc)) _ HRB.out Try.underlying37 rfl HSB.out ?_))
        | (go_at_call 22; with_reducible refine (HFA.out _ HX.out).mono ?_; rintro e wz ⟨rfl, hbz⟩; have HX := Lib.hid (HX.out.step (mod_of_below hbz) (fun _ h => h)); clear hbz; have HRA := Lib.hid ((HA0.out.mod HX.out (fun h => h)).at.range HAO.out.len); have HRB := Lib.hid ((HB0.out.mod HX.out (fun h => h)).at.range HBO.out.len))
        | (go_at_call 22; with_reducible refine (HFB.out _ HX.out).mono ?_; rintro e wz ⟨rfl, hbz⟩; have HX := Lib.hid (HX.out.step (mod_of_below hbz) (fun _ h => h)); clear hbz; have HRA := Lib.hid ((HA0.out.mod HX.out (fun h => h)).at.range HAO.out.len); have HRB := Lib.hid ((HB0.out.mod HX.out (fun h => h)).at.range HBO.out.len))
        | (go_at_call 23; refine (HSH.out _).mono ?_; rintro e ws ⟨p, rfl, hs, hbz⟩))
    have HXS : Hid (Mod nob w0 ws) := HX.out.step (mod_of_below hbz) (fun _ h => h)
    have hz1 := HX.out.size
    obtain ⟨D, hD⟩ : ∃ D, D = grow nob wz ws := ⟨_, rfl⟩
    rw [← hD] at hs
    have HD : Hid (∀ b, D b → n0 + 2 ≤ b) := fun b hb => by
      rw [hD] at hb
      have := HZ.out
      rcases hb with hb | hb
      · exact hb.elim
      · omega
    obtain ⟨S, hS⟩ : ∃ S, S = S6 fun _ => 0 := ⟨_, rfl⟩
    rw [← hS] at hs
    have hfree : freeN S = 255 := by rw [hS]; exact S6_free0 _ (fun _ => rfl)
    have hwas : S.was.length = 0 := by rw [hS]; rfl
    obtain ⟨e1, he1⟩ : ∃ x, x = layE S 5 a := ⟨_, rfl⟩
    obtain ⟨S1, hS1⟩ : ∃ x, x = layS S 5 a := ⟨_, rfl⟩
    obtain ⟨f1, hf1⟩ : ∃ x, x = layE S1 6 b := ⟨_, rfl⟩
    obtain ⟨S2, hS2⟩ : ∃ x, x = layS S1 6 b := ⟨_, rfl⟩
    have HC := Lib.hid (both_cases S hfree a b)
    rw [← hS1, ← he1, ← hf1, ← hS2] at HC
    have hwas1 : S1.was.length ≤ 2400 := by have := layS_was S hs.ok 5 a HAO.out.len; rw [← hS1] at this; omega
    have HLA : Hid (∀ wx, Mod nob ws wx → Calls Try.prog 24 #[.pointer (some ⟨p, 0, none⟩), .int .i64 5, .agg (inoL a (.slice ea a.ents.length ec)).toArray] wx fun e w' => e = .returned (.int .i64 e1) ∧ ShStep ws p D w' S1) := fun wx hm => by
      rw [he1, hS1]
      refine (lay1_any (hs.mod hm (fun _ _ h => h)) (by omega) 5 HAO.out (HE.out.mod (HXS.out.step hm (fun _ h => h)) (fun _ _ _ h => h)) (fun h0 g hg hdg => by have h1 := HLE.out h0 g hg; have h2 := HD.out g hdg; omega)).mono ?_
      rintro e w' ⟨rfl, hk⟩
      exact ⟨rfl, ShStep.from hs hm hk⟩
    have HLB : Hid (∀ wx w1, ShStep ws p D w1 S1 → Mod nob w1 wx → Calls Try.prog 24 #[.pointer (some ⟨p, 0, none⟩), .int .i64 6, .agg (inoL b (.slice fa b.ents.length fc)).toArray] wx fun e w' => e = .returned (.int .i64 f1) ∧ ShStep ws p D w' S2) := fun wx w1 hk hm => by
      rw [hf1, hS2]
      have hg1 : ∀ g, grow D ws w1 g → n0 + 2 ≤ g := fun g hg => by
        rcases hg with hg | hg
        · exact HD.out g hg
        · have h1 := HXS.out.size; have h2 := HZ.out; omega
      refine (lay1_any (hk.1.mod hm (fun _ _ h => h)) (by omega) 6 HBO.out ((HF.out.mod HXS.out (fun _ _ _ h => h)).mod (hk.2.step hm (fun _ h => h.elim)) (fun h0 g hg hdg => by have h1 := HLF.out h0 g hg; have h2 := HD.out g hdg; omega)) (fun h0 g hg hdg => by have h1 := HLF.out h0 g hg; have h2 := hg1 g hdg; omega)).mono ?_
      rintro e w' ⟨rfl, hk2⟩
      exact ⟨rfl, hk.over hm hk2⟩
    have HRA : Hid (ws.drew.rangeAt n0 0 (inoL a (.slice ea a.ents.length ec))) := (HA0.out.mod HXS.out (fun h => h)).at.range HAO.out.len
    have HRB : Hid (ws.drew.rangeAt (n0 + 1) 0 (inoL b (.slice fa b.ents.length fc))) := (HB0.out.mod HXS.out (fun h => h)).at.range HBO.out.len
    have HU37 := Lib.hid Try.underlying37
    clear hs hbz hz1 hD hS hfree hwas he1 hS1 hf1 hS2 hwas1 HAW HSH HFA HFB HX
    refine wp_region_noPanic ?_
    refine wp_region_held_drew (S := fun w' => w'.rangeAt n0 0 (inoL a (.slice ea a.ents.length ec)) ∧ w'.rangeAt (n0 + 1) 0 (inoL b (.slice fa b.ents.length fc))) (by kernel_rfl) ⟨HRA.out, HRB.out⟩ (fun hHeld => ?_)
    refine wpAnyH_take (i := 0) (v := .pointer (some ⟨p, 0, none⟩)) rfl (by kernel_rfl) (by kernel_rfl) (by kernel_rfl) (fun _ _ _ h => h) (Or.inl ⟨by rfl, ?_⟩) hHeld ?_
    case refine_1 =>
      rintro wx -
      go_simp
    simp only [Act.put, List.setIfInBounds_toArray, List.set_cons_zero, List.set_cons_succ]
    refine wpAnyH_take (i := 1) (v := .agg (inoL a (.slice ea a.ents.length ec)).toArray) rfl (by kernel_rfl) (by kernel_rfl) (by kernel_rfl) (fun _ _ _ h => h) (yieldsIf_load_mid (by rfl) 37 _ rfl n0 0 rfl _ _ (fun _ h => h.1) HU37.out rfl HSA.out) hHeld ?_
    simp only [Act.put, List.setIfInBounds_toArray, List.set_cons_zero, List.set_cons_succ]
    refine wpAnyH_take (i := 3) (v := .pointer (some ⟨p, 0, none⟩)) rfl (by kernel_rfl) (by kernel_rfl) (by kernel_rfl) (fun _ _ _ h => h) (Or.inl ⟨by rfl, ?_⟩) hHeld ?_
    case refine_1 =>
      rintro wx -
      go_simp
    simp only [Act.put, List.setIfInBounds_toArray, List.set_cons_zero, List.set_cons_succ]
    refine wpAnyH_take (i := 4) (v := .agg (inoL b (.slice fa b.ents.length fc)).toArray) rfl (by kernel_rfl) (by kernel_rfl) (by kernel_rfl) (fun _ _ _ h => h) (yieldsIf_load_mid (by rfl) 37 _ rfl (n0 + 1) 0 rfl _ _ (fun _ h => h.2) HU37.out rfl HSB.out) hHeld ?_
    simp only [Act.put, List.setIfInBounds_toArray, List.set_cons_zero, List.set_cons_succ]
    refine wpAnyH_ready (rs := [2]) (by kernel_rfl) (by simp) ?_
    refine AllReadyH.cons rfl (fun K hK => ?_) AllReadyH.nil
    go_simp
    refine (HLA.out _ ((Mod.refl nob ws).drew)).mono ?_
    rintro e w5 ⟨rfl, hk5⟩
    have HK5 := Lib.hid hk5
    have hnA : ¬ D n0 := fun h => by have := HD.out _ h; omega
    have hnB : ¬ D (n0 + 1) := fun h => by have := HD.out _ h; omega
    have HNA := Lib.hid hnA
    have HNB := Lib.hid hnB
    clear hk5 hnA hnB
    go_wp2_with fail
    refine hK.out _ _ ⟨fun j v hj => HK5.out.2.cell (HRA.out j v hj) HNA.out, fun j v hj => HK5.out.2.cell (HRB.out j v hj) HNB.out⟩ (fun hHeld2 => ?_)
    clear hK K
    try simp only [Act.put, List.setIfInBounds_toArray, List.set_cons_zero, List.set_cons_succ]
    refine wpAnyH_ready (rs := [5]) (by kernel_rfl) (by simp) ?_
    refine AllReadyH.cons rfl (fun K hK => ?_) AllReadyH.nil
    go_simp
    refine (HLB.out _ _ HK5.out (Mod.refl nob w5)).mono ?_
    rintro e w6 ⟨rfl, hk6⟩
    have HK6 := Lib.hid hk6
    clear hk6
    go_wp2_with fail
    refine hK.out _ _ ⟨fun j v hj => HK6.out.2.cell (HRA.out j v hj) HNA.out, fun j v hj => HK6.out.2.cell (HRB.out j v hj) HNB.out⟩ (fun hHeld3 => ?_)
    clear hK K
    try simp only [Act.put, List.setIfInBounds_toArray, List.set_cons_zero, List.set_cons_succ]
    refine wpAnyH_take (i := 6) (v := .int .i64 e1) rfl (by kernel_rfl) (by kernel_rfl) (by kernel_rfl) (fun _ _ _ h => h) (Or.inl ⟨by rfl, ?_⟩) hHeld3 ?_
    case refine_1 =>
      rintro wx -
      go_simp
    simp only [Act.put, List.setIfInBounds_toArray, List.set_cons_zero, List.set_cons_succ]
    refine wpAnyH_take (i := 7) (v := .int .i64 f1) rfl (by kernel_rfl) (by kernel_rfl) (by kernel_rfl) (fun _ _ _ h => h) (Or.inl ⟨by rfl, ?_⟩) hHeld3 ?_
    case refine_1 =>
      rintro wx -
      go_simp
    simp only [Act.put, List.setIfInBounds_toArray, List.set_cons_zero, List.set_cons_succ]
    refine wpAnyH_done (by kernel_rfl) ?_ _
    refine NoPanic.normal ?_
    clear hHeld hHeld2 hHeld3 HLA HLB
    have HBE6 : Hid (Below w.heap.size w w6) := by
      have h1 := HN0.out
      have h2 := HZ.out
      refine HBEL.out.trans ((HXS.out.below (by omega) (fun b h => h.elim)).trans (HK6.out.2.below (by have := HXS.out.size; omega) (fun b h => by have := HD.out b h; omega)))
    rcases HC.out with h1 | ⟨h1, h2⟩ | ⟨h1, h2, xs, ys, hBL⟩
    · subst h1
      go_wp2_with fail
      go_ret
      exact ⟨rfl, HBE6.out⟩
    · subst h1 h2
      go_wp2_with fail
      go_ret
      exact ⟨rfl, HBE6.out⟩
    · subst h1 h2
      have HBL := Lib.hid hBL
      clear hBL
      have hrd5 := rd1_any HK6.out.1 5
      rw [rd1_laid (by decide) HBL.out.la HBL.out.ra HBL.out.fa HAO.out.len] at hrd5
      have HRD5 := Lib.hid hrd5
      clear hrd5
      go_wp2_with fail
      refine HRD5.out.mono ?_
      rintro e w7 ⟨hbz, av, xsv, rfl, hav, hxv, -, -⟩
      have HAVa := Lib.hid hav
      have HXVa := Lib.hid hxv
      obtain ⟨aa, ac, rfl, -, -, -, -⟩ := hav
      obtain ⟨xsa, xsc, rfl, xs1, xs2, -, -⟩ := hxv
      unfold maxLen at xs2
      have hszA : (inoL a (.slice aa a.ents.length ac)).toArray.size = 18 := by simp [inoL_len HAO.out.len]
      have HTH : Hid ((w7.alloc (.cells z18 37)).there w7.heap.size 0 (inoL a (.slice aa a.ents.length ac)).toArray.size) := by
        unfold Hid; rw [hszA]; exact ino_there w7 _
      have HISZ : Hid ((Try.prog.info? 37).map (·.size) = some (inoL a (.slice aa a.ents.length ac)).toArray.size) := by
        unfold Hid; rw [hszA]; exact Try.info18
      have HONE : Hid ((inoL a (.slice aa a.ents.length ac)).toArray.all (·.oneCell') = true) := all_oneCell_toArray (inoL_one rfl)
      have HROW := Lib.hid (ino_row w7 37 (inoL a (.slice aa a.ents.length ac)) (inoL_len HAO.out.len _))
      have HBZ := Lib.hid hbz
      clear hbz hszA
      go_upto_region 8 with (with_reducible refine wpList_store_mid (op := ⟨none, _, _, _, _, _⟩) rfl 37 _ _ rfl w7.heap.size 0 (inoL a (.slice aa a.ents.length ac)).toArray rfl rfl HTH.out HISZ.out HONE.out ?_)
      have HIX : Hid (InoB ((w7.alloc (.cells z18 37)).setCells w7.heap.size 0 (inoL a (.slice aa a.ents.length ac))) w7.heap.size a (.slice aa a.ents.length ac)) := ⟨HROW.out.1, HAO.out.len⟩
      have HMX : Hid (Mod nob w7 ((w7.alloc (.cells z18 37)).setCells w7.heap.size 0 (inoL a (.slice aa a.ents.length ac)))) := mod_of_below HROW.out.2
      clear HROW HTH HONE HISZ
      generalize (w7.alloc (.cells z18 37)).setCells w7.heap.size 0 (inoL a (.slice aa a.ents.length ac)) = w8 at *
      obtain ⟨X, hX⟩ : ∃ X, X = w7.heap.size := ⟨_, rfl⟩
      rw [← hX] at HIX ⊢
      clear hX
      have HNX : Hid (Mod nob w6 w8) := (mod_of_below HBZ.out).step HMX.out (fun _ h => h)
      have HEVa : Hid (HoldsE w8 (.slice aa a.ents.length ac) a.ents) := HAVa.out.mod HMX.out (fun _ _ _ h => h)
      have HNVa : Hid (HoldsN w8 (.slice xsa xs.length xsc) xs) := HXVa.out.mod HMX.out (fun _ _ _ h => h)
      clear HAVa HXVa HMX HBZ HRD5
      have hrd6 := rd1_any (HK6.out.1.mod HNX.out (fun _ _ h => h)) 6
      rw [rd1_laid (by decide) HBL.out.lb HBL.out.rb HBL.out.fb HBO.out.len] at hrd6
      have HRD6 := Lib.hid hrd6
      clear hrd6
      go_wp2_with fail
      refine HRD6.out.mono ?_
      rintro e w9 ⟨hbz, bv, ysv, rfl, hav, hxv, -, -⟩
      have HAVb := Lib.hid hav
      have HXVb := Lib.hid hxv
      obtain ⟨ba, bc, rfl, -, -, -, -⟩ := hav
      obtain ⟨ysa, ysc, rfl, ys1, ys2, -, -⟩ := hxv
      unfold maxLen at ys2
      have hszA : (inoL b (.slice ba b.ents.length bc)).toArray.size = 18 := by simp [inoL_len HBO.out.len]
      have HTH : Hid ((w9.alloc (.cells z18 37)).there w9.heap.size 0 (inoL b (.slice ba b.ents.length bc)).toArray.size) := by
        unfold Hid; rw [hszA]; exact ino_there w9 _
      have HISZ : Hid ((Try.prog.info? 37).map (·.size) = some (inoL b (.slice ba b.ents.length bc)).toArray.size) := by
        unfold Hid; rw [hszA]; exact Try.info18
      have HONE : Hid ((inoL b (.slice ba b.ents.length bc)).toArray.all (·.oneCell') = true) := all_oneCell_toArray (inoL_one rfl)
      have HROW := Lib.hid (ino_row w9 37 (inoL b (.slice ba b.ents.length bc)) (inoL_len HBO.out.len _))
      have HBZ := Lib.hid hbz
      clear hbz hszA
      go_upto_region 9 with (with_reducible refine wpList_store_mid (op := ⟨none, _, _, _, _, _⟩) rfl 37 _ _ rfl w9.heap.size 0 (inoL b (.slice ba b.ents.length bc)).toArray rfl rfl HTH.out HISZ.out HONE.out ?_)
      have HIY : Hid (InoB ((w9.alloc (.cells z18 37)).setCells w9.heap.size 0 (inoL b (.slice ba b.ents.length bc))) w9.heap.size b (.slice ba b.ents.length bc)) := ⟨HROW.out.1, HBO.out.len⟩
      have HMY : Hid (Mod nob w9 ((w9.alloc (.cells z18 37)).setCells w9.heap.size 0 (inoL b (.slice ba b.ents.length bc)))) := mod_of_below HROW.out.2
      clear HROW HTH HONE HISZ
      generalize (w9.alloc (.cells z18 37)).setCells w9.heap.size 0 (inoL b (.slice ba b.ents.length bc)) = wA at *
      obtain ⟨Y, hY⟩ : ∃ Y, Y = w9.heap.size := ⟨_, rfl⟩
      rw [← hY] at HIY ⊢
      clear hY
      have HNY : Hid (Mod nob w8 wA) := (mod_of_below HBZ.out).step HMY.out (fun _ h => h)
      have HEVb : Hid (HoldsE wA (.slice ba b.ents.length bc) b.ents) := HAVb.out.mod HMY.out (fun _ _ _ h => h)
      have HNVb : Hid (HoldsN wA (.slice ysa ys.length ysc) ys) := HXVb.out.mod HMY.out (fun _ _ _ h => h)
      clear HAVb HXVb HMY HBZ HRD6
      have HJX := Lib.hid (HIX.out.mod HNY.out (fun h => h))
      have HM6A : Hid (Mod nob w6 wA) := HNX.out.step HNY.out (fun _ h => h)
      have HJA : Hid (InoB wA n0 a (.slice ea a.ents.length ec)) := ((HA0.out.mod HXS.out (fun h => h)).mod HK6.out.2 HNA.out).mod HM6A.out (fun h => h)
      have HJB : Hid (InoB wA (n0 + 1) b (.slice fa b.ents.length fc)) := ((HB0.out.mod HXS.out (fun h => h)).mod HK6.out.2 HNB.out).mod HM6A.out (fun h => h)
      have HEA : Hid (HoldsE wA (.slice ea a.ents.length ec) a.ents) := ((HE.out.mod HXS.out (fun _ _ _ h => h)).mod HK6.out.2 (fun h0 g hg hd => by have h1 := HLE.out h0 g hg; have h2 := HD.out g hd; omega)).mod HM6A.out (fun _ _ _ h => h)
      have HEB : Hid (HoldsE wA (.slice fa b.ents.length fc) b.ents) := ((HF.out.mod HXS.out (fun _ _ _ h => h)).mod HK6.out.2 (fun h0 g hg hd => by have h1 := HLF.out h0 g hg; have h2 := HD.out g hd; omega)).mod HM6A.out (fun _ _ _ h => h)
      have HEX : Hid (HoldsE wA (.slice aa a.ents.length ac) a.ents) := HEVa.out.mod HNY.out (fun _ _ _ h => h)
      have HNVX : Hid (HoldsN wA (.slice xsa xs.length xsc) xs) := HNVa.out.mod HNY.out (fun _ _ _ h => h)
      have HBEA : Hid (Below w.heap.size w wA) := HBE6.out.trans (HM6A.out.below HBE6.out.size (fun b h => h.elim))
      have HS1 : Hid (∀ wx, Mod nob wA wx → Calls Try.prog 26 #[.agg (inoL a (.slice aa a.ents.length ac)).toArray, .agg (inoL a (.slice ea a.ents.length ec)).toArray] wx fun e w' => e = .returned (.bool true) ∧ Below wx.heap.size wx w') := fun wx hm => same6 HAO.out (HEX.out.mod hm (fun _ _ _ h => h)) (HEA.out.mod hm (fun _ _ _ h => h))
      have HS2 : Hid (∀ wx, Mod nob wA wx → Calls Try.prog 26 #[.agg (inoL b (.slice ba b.ents.length bc)).toArray, .agg (inoL b (.slice fa b.ents.length fc)).toArray] wx fun e w' => e = .returned (.bool true) ∧ Below wx.heap.size wx w') := fun wx hm => same6 HBO.out (HEVb.out.mod hm (fun _ _ _ h => h)) (HEB.out.mod hm (fun _ _ _ h => h))
      have HSX : Hid ((Try.prog.info? 37).map (·.size) = some (inoL a (.slice aa a.ents.length ac)).length) := by
        unfold Hid; rw [inoL_len HAO.out.len]; exact Try.info18
      have HSY : Hid ((Try.prog.info? 37).map (·.size) = some (inoL b (.slice ba b.ents.length bc)).length) := by
        unfold Hid; rw [inoL_len HBO.out.len]; exact Try.info18
      clear HM6A HEVa HNVa HNX HNY HIX HA0 HB0 HE HF HXS HLE HLF HD HK5 HK6 HRA HRB
      obtain ⟨P, hP⟩ : ∃ P, P = xs.length := ⟨_, rfl⟩
      obtain ⟨Q, hQ⟩ : ∃ Q, Q = ys.length := ⟨_, rfl⟩
      rw [← hP] at xs1 HNVX ⊢
      rw [← hQ] at ys1 HNVb ⊢
      have HPP := Lib.hid hP
      have HQQ := Lib.hid hQ
      clear hP hQ
      go_wp2_with fail
      go_loopg [14] P (fun gk iv wr => ∃ k : Nat, k + gk = P ∧ iv = .int .i64 k ∧ Hid (Mod nob wA wr))
      case atStart => exact ⟨0, by omega, rfl, Mod.refl _ _⟩
      case round =>
        obtain ⟨k, hk, rfl, HW⟩ := hrel
        by_cases hlt : k < P
        · have hki : (k : Int) < (P : Int) := by omega
          have HKL := Lib.hid hlt
          go_wp2_with fail
          go_loopg [15] Q (fun gk jv wr => ∃ j : Nat, j + gk = Q ∧ jv = .int .i64 j ∧ Hid (Mod nob wA wr))
          case atStart => exact ⟨0, by omega, rfl, HW⟩
          case round =>
            obtain ⟨j, hj, rfl, HW2⟩ := hrel
            by_cases hlt2 : j < Q
            · have hji : (j : Int) < (Q : Int) := by omega
              obtain ⟨ao', c', e, -, -, -, hcx⟩ := HNVX.out.mod HW2.out (fun _ _ _ h => h)
              simp only [Value.slice.injEq] at e
              obtain ⟨rfl, -, rfl⟩ := e
              obtain ⟨g, o, rfl, d1⟩ := hcx k (by have := HPP.out; omega)
              obtain ⟨ao', c', e, -, -, -, hcy⟩ := HNVb.out.mod HW2.out (fun _ _ _ h => h)
              simp only [Value.slice.injEq] at e
              obtain ⟨rfl, -, rfl⟩ := e
              obtain ⟨g', o', rfl, d2⟩ := hcy j (by have := HQQ.out; omega)
              have hne : xs.getD k 0 ≠ ys.getD j 0 := HBL.out.ap _ (getD_in (by have := HPP.out; omega)) _ (getD_in (by have := HQQ.out; omega))
              have hnb : (((xs.getD k 0 : Nat) : Int) == ((ys.getD j 0 : Nat) : Int)) = false := beq_false_of_ne (by omega)
              generalize xs.getD k 0 = x at *
              generalize ys.getD j 0 = y at *
              clear hcx hcy hne
              go_wp2_with fail
              go_quiet (fail)
              go_wp2_with fail
              go_roundg (Q - j - 1)
              case measure => omega
              case rel => exact ⟨j + 1, by omega, by go_num, HW2.out.drewN _⟩
            · have hge : ¬ (j : Int) < (Q : Int) := by omega
              go_wp2_with fail
              go_roundg (P - k - 1)
              case measure => omega
              case rel => exact ⟨k + 1, by omega, by go_num, HW2⟩
        · have hge : ¬ (k : Int) < (P : Int) := by omega
          have HX : Hid (Mod nob wA wr) := HW
          have HQA := Lib.hid ((HJA.out.mod HX.out (fun h => h)).at.range HAO.out.len)
          have HQB := Lib.hid ((HJB.out.mod HX.out (fun h => h)).at.range HBO.out.len)
          have HQX := Lib.hid ((HJX.out.mod HX.out (fun h => h)).at.range HAO.out.len)
          have HQY := Lib.hid ((HIY.out.mod HX.out (fun h => h)).at.range HBO.out.len)
          clear HW
          go_wp2_with (first
            | ((refine wpList_unguard (o := ⟨some 87, _, _, _, _, _⟩) (by rfl) ?_; with_reducible refine wpList_load_mid (op := ⟨some 87, _, _, _, _, _⟩) rfl 37 _ rfl (X) 0 rfl (inoL a (.slice aa a.ents.length ac)) _ HQX.out Try.underlying37 rfl HSX.out ?_))
            | ((refine wpList_unguard (o := ⟨some 88, _, _, _, _, _⟩) (by rfl) ?_; with_reducible refine wpList_load_mid (op := ⟨some 88, _, _, _, _, _⟩) rfl 37 _ rfl (n0) 0 rfl (inoL a (.slice ea a.ents.length ec)) _ HQA.out Try.underlying37 rfl HSA.out ?_))
            | ((refine wpList_unguard (o := ⟨some 92, _, _, _, _, _⟩) (by rfl) ?_; with_reducible refine wpList_load_mid (op := ⟨some 92, _, _, _, _, _⟩) rfl 37 _ rfl (Y) 0 rfl (inoL b (.slice ba b.ents.length bc)) _ HQY.out Try.underlying37 rfl HSY.out ?_))
            | ((refine wpList_unguard (o := ⟨some 93, _, _, _, _, _⟩) (by rfl) ?_; with_reducible refine wpList_load_mid (op := ⟨some 93, _, _, _, _, _⟩) rfl 37 _ rfl (n0 + 1) 0 rfl (inoL b (.slice fa b.ents.length fc)) _ HQB.out Try.underlying37 rfl HSB.out ?_))
            | (go_at_call 26; with_reducible refine (HS1.out _ HX.out).mono ?_; rintro e wz ⟨rfl, hbz⟩; have HX := Lib.hid (HX.out.step (mod_of_below hbz) (fun _ h => h)); clear hbz; have HQA := Lib.hid ((HJA.out.mod HX.out (fun h => h)).at.range HAO.out.len); have HQB := Lib.hid ((HJB.out.mod HX.out (fun h => h)).at.range HBO.out.len); have HQX := Lib.hid ((HJX.out.mod HX.out (fun h => h)).at.range HAO.out.len); have HQY := Lib.hid ((HIY.out.mod HX.out (fun h => h)).at.range HBO.out.len))
            | (go_at_call 26; with_reducible refine (HS2.out _ HX.out).mono ?_; rintro e wz ⟨rfl, hbz⟩; have HX := Lib.hid (HX.out.step (mod_of_below hbz) (fun _ h => h)); clear hbz; have HQA := Lib.hid ((HJA.out.mod HX.out (fun h => h)).at.range HAO.out.len); have HQB := Lib.hid ((HJB.out.mod HX.out (fun h => h)).at.range HBO.out.len); have HQX := Lib.hid ((HJX.out.mod HX.out (fun h => h)).at.range HAO.out.len); have HQY := Lib.hid ((HIY.out.mod HX.out (fun h => h)).at.range HBO.out.len)))
          go_ret
          exact ⟨rfl, HBEA.out.trans (HX.out.below HBEA.out.size (fun b h => h.elim))⟩
  · have hno : b1 = false ∨ b1 = true ∧ b2 = false := by
      cases b1
      · exact .inl rfl
      · cases b2
        · exact .inr ⟨rfl, rfl⟩
        · exact absurd ⟨rfl, rfl⟩ hfew
    clear hfew
    rcases hno with rfl | ⟨rfl, rfl⟩
    all_goals
      go_upto_if 27 with (first
          | ((refine wpList_unguard (o := ⟨some 19, _, _, _, _, _⟩) (by rfl) ?_; with_reducible refine wpList_load_mid (op := ⟨some 19, _, _, _, _, _⟩) rfl 37 _ rfl (n0) 0 rfl (inoL a (.slice ea a.ents.length ec)) _ HRA.out Try.underlying37 rfl HSA.out ?_))
          | ((refine wpList_unguard (o := ⟨some 24, _, _, _, _, _⟩) (by rfl) ?_; with_reducible refine wpList_load_mid (op := ⟨some 24, _, _, _, _, _⟩) rfl 37 _ rfl (n0 + 1) 0 rfl (inoL b (.slice fa b.ents.length fc)) _ HRB.out Try.underlying37 rfl HSB.out ?_))
          | (go_at_call 22; with_reducible refine (HFA.out _ HX.out).mono ?_; rintro e wz ⟨rfl, hbz⟩; have HX := Lib.hid (HX.out.step (mod_of_below hbz) (fun _ h => h)); clear hbz; have HRA := Lib.hid ((HA0.out.mod HX.out (fun h => h)).at.range HAO.out.len); have HRB := Lib.hid ((HB0.out.mod HX.out (fun h => h)).at.range HBO.out.len))
          | (go_at_call 22; with_reducible refine (HFB.out _ HX.out).mono ?_; rintro e wz ⟨rfl, hbz⟩; have HX := Lib.hid (HX.out.step (mod_of_below hbz) (fun _ h => h)); clear hbz; have HRA := Lib.hid ((HA0.out.mod HX.out (fun h => h)).at.range HAO.out.len); have HRB := Lib.hid ((HB0.out.mod HX.out (fun h => h)).at.range HBO.out.len)))
      go_wp2_with fail
      refine (HAW.out _).mono ?_
      rintro e we ⟨rfl, hbz⟩
      have HX := Lib.hid (HX.out.step (mod_of_below hbz) (fun _ h => h))
      clear hbz
      go_wp2_with fail
      go_ret
      exact ⟨rfl, HBEL.out.trans (HX.out.below (by have := HZ.out; have := HN0.out; omega) (fun b h => h.elim))⟩
end Go.Proofs.Ytfpnmphmngdkdaa
