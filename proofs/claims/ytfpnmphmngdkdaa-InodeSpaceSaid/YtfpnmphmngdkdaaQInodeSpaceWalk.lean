/-
  The law InodeSpace: the walk. No condition.
-/
import Derived.Test.YtfpnmphmngdkdaaQNew8
import Derived.Test.YtfpnmphmngdkdaaQMisc8
import Derived.Test.YtfpnmphmngdkdaaQLayGet
import Derived.Test.YtfpnmphmngdkdaaQFew6
import Derived.Test.YtfpnmphmngdkdaaQRefRight
import Derived.Deep.RegionHeld3

namespace Go.Proofs.Ytfpnmphmngdkdaa
open Go.ChangeShapes Go.WideShapes Go.ChangeAt Go.RowKit
set_option linter.unusedSimpArgs false
set_option linter.unusedVariables false

theorem S6_zero0 (a : Nat → Int) (j : Int) (hj : 820 ≤ j) : (S6 a).get j = 0 := by
  by_cases h : j < 3128
  · have e : j = ((j.toNat : Nat) : Int) := by omega
    rw [e, get_natx _ _ (by omega), S6_now a _ (by omega)]
    unfold part5
    rw [if_neg (by omega)]
  · unfold Sh.get
    rw [if_neg (by omega)]

set_option maxRecDepth 20000 in
set_option maxHeartbeats 1500000 in
theorem law_space {w : World} {n : Ino} {ev : Value} (hn : n.Ok) (he : HoldsE w ev n.ents) (x : Int) (hx : 0 ≤ x ∧ x < 256) :
    Calls Try.prog 13 #[.agg (inoA n ev), .int .u8 x] w fun e w' => e = .returned (.bool true) ∧ Below w.heap.size w w' := by
  have HNO := Lib.hid hn
  have HBEL : Hid (Below w.heap.size w (w.alloc (.cells (inoA n ev) 37))) := (Below.refl _ _).alloc (Nat.le_refl _) _
  have HA0 : Hid (InoB (w.alloc (.cells (inoA n ev) 37)) w.heap.size n ev) := InoB.new w hn.len ev
  have HE := Lib.hid (he.below HBEL.out)
  have HLE : Hid (n.ents ≠ [] → ∀ g, ev.ownBlock = some g → g < w.heap.size) := he.lt
  obtain ⟨ea, ec, rfl, -, -, -, -⟩ := he
  obtain ⟨b1, hb1⟩ : ∃ x, x = fewB n := ⟨_, rfl⟩
  obtain ⟨b2, hb2⟩ : ∃ x, x = rightB n := ⟨_, rfl⟩
  have HFA : Hid (∀ wx, Mod nob (w.alloc (.cells (inoA n (.slice ea n.ents.length ec)) 37)) wx → Calls Try.prog 22 #[.agg (inoL n (.slice ea n.ents.length ec)).toArray] wx fun e w' => e = .returned (.bool b1) ∧ Below wx.heap.size wx w') := fun wx hm => by
    rw [hb1]
    exact few6 HNO.out (HE.out.mod hm (fun _ _ _ h => h))
  have HRR : Hid (∀ wx, Mod nob (w.alloc (.cells (inoA n (.slice ea n.ents.length ec)) 37)) wx → Calls Try.prog 29 #[.agg (inoL n (.slice ea n.ents.length ec)).toArray] wx fun e w' => e = .returned (.bool b2) ∧ Below wx.heap.size wx w') := fun wx hm => by
    rw [hb2]
    exact ref_right HNO.out (HE.out.mod hm (fun _ _ _ h => h))
  have HBR := Lib.hid hb2
  have HSA : Hid ((Try.prog.info? 37).map (·.size) = some (inoL n (.slice ea n.ents.length ec)).length) := by
    unfold Hid; rw [inoL_len hn.len]; exact Try.info18
  have HAW : Hid (∀ wx, Calls Try.prog 62 #[] wx fun e w' => e = .returned (.bool true) ∧ Below wx.heap.size wx w') := fun wx => awake8 wx
  have HSH : Hid (∀ wx, Calls Try.prog 23 #[.agg #[.int .u64 0, .int .u64 0, .int .u64 0, .int .u64 0]] wx fun e w' => ∃ p, e = .returned (.pointer (some ⟨p, 0, none⟩)) ∧ SheetAt w' p (grow nob wx w') (S6 fun _ => 0) ∧ Below wx.heap.size wx w') := fun wx => sheet6_any (fun _ => 0) (fun _ => by omega)
  have hsz0 : (w.alloc (.cells (inoA n (.slice ea n.ents.length ec)) 37)).heap.size = w.heap.size + 1 := by simp
  have HZ := Lib.hid hsz0
  obtain ⟨x0, x1⟩ := hx
  clear hn hb1 hb2 hsz0
  go_enter Try.func13, Try.ntmps13
  go_wp2_with fail
  generalize w.alloc (.cells (inoA n (.slice ea n.ents.length ec)) 37) = w0 at *
  obtain ⟨n0, hn0⟩ : ∃ n0, n0 = w.heap.size := ⟨_, rfl⟩
  have HN0 := Lib.hid hn0
  rw [← hn0] at HA0 HZ HLE ⊢
  clear hn0
  have HX : Hid (Mod nob w0 w0) := Mod.refl nob w0
  refine (HAW.out _).mono ?_
  rintro e wz ⟨rfl, hbz⟩
  have HX := Lib.hid (HX.out.step (mod_of_below hbz) (fun _ h => h))
  clear hbz
  have HRA := Lib.hid ((HA0.out.mod HX.out (fun h => h)).at.range HNO.out.len)
  by_cases hgo : b1 = true ∧ b2 = true
  · obtain ⟨rfl, rfl⟩ := hgo
    have HRP : Hid (RightP n) := (rightB_iff n).1 HBR.out.symm
    go_upto_region 3 with (first
        | ((refine wpList_unguard (o := ⟨some 15, _, _, _, _, _⟩) (by rfl) ?_; with_reducible refine wpList_load_mid (op := ⟨some 15, _, _, _, _, _⟩) rfl 37 _ rfl (n0) 0 rfl (inoL n (.slice ea n.ents.length ec)) _ HRA.out Try.underlying37 rfl HSA.out ?_))
        | ((refine wpList_unguard (o := ⟨some 20, _, _, _, _, _⟩) (by rfl) ?_; with_reducible refine wpList_load_mid (op := ⟨some 20, _, _, _, _, _⟩) rfl 37 _ rfl (n0) 0 rfl (inoL n (.slice ea n.ents.length ec)) _ HRA.out Try.underlying37 rfl HSA.out ?_))
        | (go_at_call 22; with_reducible refine (HFA.out _ HX.out).mono ?_; rintro e wz ⟨rfl, hbz⟩; have HX := Lib.hid (HX.out.step (mod_of_below hbz) (fun _ h => h)); clear hbz; have HRA := Lib.hid ((HA0.out.mod HX.out (fun h => h)).at.range HNO.out.len))
        | (go_at_call 29; with_reducible refine (HRR.out _ HX.out).mono ?_; rintro e wz ⟨rfl, hbz⟩; have HX := Lib.hid (HX.out.step (mod_of_below hbz) (fun _ h => h)); clear hbz; have HRA := Lib.hid ((HA0.out.mod HX.out (fun h => h)).at.range HNO.out.len)))
    have HEM := Lib.hid (empty8 (ev := .slice ea n.ents.length ec) HNO.out (HE.out.mod HX.out (fun _ _ _ h => h)))
    have HMO : Hid (emptyN n).Ok := emptyN_ok HNO.out
    have HMR : Hid (RightP (emptyN n)) := emptyN_right HRP.out
    have HMNE : Hid ((emptyN n).ents = n.ents) := rfl
    obtain ⟨m, hm⟩ : ∃ m, m = emptyN n := ⟨_, rfl⟩
    rw [← hm] at HEM HMO HMR HMNE
    clear hm
    have HHA : Hid (∀ wx, Mod nob wz wx → wx.there n0 0 (inoL m (.slice ea n.ents.length ec)).toArray.size ∧ InoB (wx.setCells n0 0 (inoL m (.slice ea n.ents.length ec))) n0 m (.slice ea n.ents.length ec)) := fun wx hm => by
      have h1 := (HA0.out.mod HX.out (fun h => h)).mod hm (fun h => h)
      refine ⟨?_, h1.whole HMO.out.len⟩
      rw [show (inoL m (.slice ea n.ents.length ec)).toArray.size = 18 by simp [inoL_len HMO.out.len]]
      exact h1.there
    have HISA : Hid ((Try.prog.info? 37).map (·.size) = some (inoL m (.slice ea n.ents.length ec)).toArray.size) := by
      unfold Hid; rw [show (inoL m (.slice ea n.ents.length ec)).toArray.size = 18 by simp [inoL_len HMO.out.len]]; exact Try.info18
    have HISL : Hid ((Try.prog.info? 37).map (·.size) = some (inoL m (.slice ea n.ents.length ec)).length) := by
      unfold Hid; rw [inoL_len HMO.out.len]; exact Try.info18
    have HONE : Hid ((inoL m (.slice ea n.ents.length ec)).toArray.all (·.oneCell') = true) := all_oneCell_toArray (inoL_one rfl)
    clear HFA HRR HAW HBR
    go_upto_region 4 with (first
      | (with_reducible refine wpList_load_mid (op := ⟨some 25, _, _, _, _, _⟩) rfl 37 _ rfl (n0) 0 rfl (inoL n (.slice ea n.ents.length ec)) _ HRA.out Try.underlying37 rfl HSA.out ?_)
      | (go_at_call 63; refine HEM.out.mono ?_; rintro e wE ⟨rfl, hbE⟩; have HTH := Lib.hid (HHA.out wE (mod_of_below hbE)).1)
      | (with_reducible refine wpList_store_mid (op := ⟨none, _, _, _, _, _⟩) rfl 37 _ _ rfl n0 0 (inoL m (.slice ea n.ents.length ec)).toArray rfl rfl HTH.out HISA.out HONE.out ?_))
    have HXE : Hid (Mod nob w0 wE) := HX.out.step (mod_of_below hbE) (fun _ h => h)
    have HSM : Hid (Mod (fun b => b = n0) wE (wE.setCells n0 0 (inoL m (.slice ea n.ents.length ec)))) := Mod.setCells (D := fun b => b = n0) n0 (.inl rfl) _ _ _ (Mod.refl (fun b => b = n0) wE)
    have HB3 : Hid (InoB (wE.setCells n0 0 (inoL m (.slice ea n.ents.length ec))) n0 m (.slice ea n.ents.length ec)) := (HHA.out wE (mod_of_below hbE)).2
    have HE3 : Hid (HoldsE (wE.setCells n0 0 (inoL m (.slice ea n.ents.length ec))) (.slice ea n.ents.length ec) m.ents) := by
      unfold Hid
      rw [HMNE.out]
      exact (HE.out.mod HXE.out (fun _ _ _ h => h)).mod HSM.out (fun h0 g hg hd => by have := HLE.out h0 g hg; omega)
    have HLE3 : Hid (m.ents ≠ [] → ∀ g, (Value.slice ea n.ents.length ec).ownBlock = some g → g < n0) := by unfold Hid; rw [HMNE.out]; exact HLE.out
    have HBW : Hid (Below w.heap.size w (wE.setCells n0 0 (inoL m (.slice ea n.ents.length ec)))) := by
      have h1 := HN0.out
      have h2 := HZ.out
      exact (HBEL.out.trans (HXE.out.below (by omega) (fun b h => h.elim))).trans (Lib.below_setCells_w (by omega) _ _ _)
    have HSZ3 : Hid (n0 < (wE.setCells n0 0 (inoL m (.slice ea n.ents.length ec))).heap.size) := by have h1 := HXE.out.size; have h2 := HZ.out; have h3 := HSM.out.size; unfold Hid; omega
    clear hbE HXE HSM HEM HHA HTH HISA HONE HA0 HE HLE HBEL HX HRA HSA HZ HRP
    generalize wE.setCells n0 0 (inoL m (.slice ea n.ents.length ec)) = w3 at *
    have hlen : n.ents.length = m.ents.length := by rw [HMNE.out]
    rw [hlen] at HB3 HE3 HLE3 HISL
    simp only [Act.put]
    try rw [hlen]
    clear hlen
    -- REST
    obtain ⟨k, hk⟩ : ∃ k : Nat, k = (x % 14).toNat := ⟨_, rfl⟩
    have hk1 : x % 14 = (k : Int) := by omega
    have hk2 : Int.tmod x 14 = (k : Int) := by rw [Int.tmod_eq_emod_of_nonneg x0]; exact hk1
    have hk13 : k ≤ 13 := by omega
    have hki : (k : Int) ≤ 13 := by omega
    have hk0 : (0 : Int) ≤ (k : Int) := Int.natCast_nonneg _
    obtain ⟨N, hN⟩ : ∃ N : Nat, N = 255 - k := ⟨_, rfl⟩
    have hNi : 255 - (k : Int) = (N : Int) := by omega
    have HNN := Lib.hid hN
    clear hk hN
    go_upto_region 5 with (go_at_call 23; refine (HSH.out _).mono ?_; rintro e ws ⟨p, rfl, hs, hbz⟩)
    have HXS : Hid (Mod nob w3 ws) := mod_of_below hbz
    obtain ⟨D, hD⟩ : ∃ D, D = grow nob w3 ws := ⟨_, rfl⟩
    rw [← hD] at hs
    have HD : Hid (∀ b, D b → w3.heap.size ≤ b) := fun b hb => by
      rw [hD] at hb
      rcases hb with hb | hb
      · exact hb.elim
      · exact hb.1
    obtain ⟨S0, hS0⟩ : ∃ S, S = S6 fun _ => 0 := ⟨_, rfl⟩
    rw [← hS0] at hs
    have hfree0 : freeN S0 = 255 := by rw [hS0]; exact S6_free0 _ (fun _ => rfl)
    have hzero0 : ∀ j : Int, 820 ≤ j → S0.get j = 0 := fun j hj => by rw [hS0]; exact S6_zero0 _ j hj
    have hwas0 : S0.was.length = 0 := by rw [hS0]; rfl
    have hT := tookN S0 N (by rw [hfree0]; omega)
    have hfn := freeN_take S0 N (by rw [hfree0]; omega)
    have htk := take_ok hs (by omega) N (by rw [hfree0]; omega)
    obtain ⟨S, hS⟩ : ∃ S, S = (takeFrom 255 S0 1 N).1 := ⟨_, rfl⟩
    rw [← hS] at hT hfn htk
    have HTK := Lib.hid htk
    have hSk : freeN S = k := by have := HNN.out; omega
    have hSw : S.was.length ≤ 3000 := by have := hT.was; omega
    obtain ⟨hf7, he7, ho7⟩ := get_free (S := S) (i := 7) ⟨by omega, by omega⟩ (fun j g1 g2 => by rw [hT.out j (by omega) (fun x _ => by omega)]; exact hzero0 j (by omega))
    have hput : (needI m ≤ k ∧ (putI S 7 m).1 = 0 ∧ ∃ xs, InI (putI S 7 m).2 7 m xs ∧ freeN (putI S 7 m).2 + needI m = k) ∨ (k < needI m ∧ putI S 7 m = (7, S)) := by
      by_cases h : needI m ≤ k
      · left
        have := put_in (S := S) (i := 7) ⟨by omega, by omega⟩ HMO.out HMR.out (by rw [he7]; decide) (by rw [ho7]; show needI m ≤ freeN S; omega)
        obtain ⟨g1, xs, g2, g3⟩ := this
        rw [ho7] at g3
        exact ⟨h, g1, xs, g2, by rw [g3]; exact hSk⟩
      · right
        exact ⟨by omega, put_space (S := S) (i := 7) ⟨by omega, by omega⟩ HMR.out (by rw [he7]; decide) (by rw [ho7]; show ¬ needI m ≤ freeN S; omega)⟩
    have HPUT := Lib.hid hput
    have HF7 := Lib.hid hf7
    have HSW := Lib.hid hSw
    have hnd40 : needI m ≤ 40 := needI_le HMR.out
    clear hs hbz hD hS0 hfree0 hzero0 hwas0 hT hfn htk hS hSk hSw hf7 he7 ho7 hput HSH
    go_upto_region 7 with (go_at_call 64; refine HTK.out.mono ?_; rintro e w4 ⟨v, rfl, Dk, hs4, -, -, hD4, hm4⟩)
    have HS4 := Lib.hid hs4
    have HND : Hid (∀ g, Dk g → w3.heap.size ≤ g) := fun g hg => by
      rcases hD4 g hg with h | h
      · exact HD.out g h
      · have := HXS.out.size; omega
    have HM4 : Hid (Mod D w3 w4) := (HXS.out.mono (fun b _ h => h.elim)).trans (hm4.mono (fun b _ hb => .inl hb))
    have hn0D : ¬ D n0 := fun h => by have := HD.out n0 h; have := HSZ3.out; omega
    have HB4 : Hid (InoB w4 n0 m (.slice ea m.ents.length ec)) := HB3.out.mod HM4.out hn0D
    have HE4 : Hid (HoldsE w4 (.slice ea m.ents.length ec) m.ents) := HE3.out.mod HM4.out (fun h0 g hg hd => by have h1 := HLE3.out h0 g hg; have h2 := HD.out g hd; have := HSZ3.out; omega)
    have HBW4 : Hid (Below w.heap.size w w4) := HBW.out.trans (HM4.out.below HBW.out.size (fun b hb => by have := HD.out b hb; have := HBW.out.size; omega))
    have HSZ4 : Hid (w3.heap.size ≤ w4.heap.size) := HM4.out.size
    have HMK := Lib.hid (sheet_mark HS4.out)
    have HPC := Lib.hid (put_ino HS4.out (by have := HSW.out; omega) 7 HMO.out HE4.out (fun h0 g hg hd => by have h1 := HLE3.out h0 g hg; have h2 := HND.out g hd; have := HSZ3.out; omega))
    have HRG4 := Lib.hid (HB4.out.at.range HMO.out.len)
    obtain ⟨e1, he1⟩ : ∃ e, e = (putI S 7 m).1 := ⟨_, rfl⟩
    obtain ⟨T, hT⟩ : ∃ T, T = (putI S 7 m).2 := ⟨_, rfl⟩
    have HPUT2 : Hid ((needI m ≤ k ∧ e1 = 0 ∧ ∃ xs, InI T 7 m xs ∧ freeN T + needI m = k) ∨ (k < needI m ∧ e1 = 7 ∧ T = S)) := by
      rcases HPUT.out with ⟨g1, g2, g3⟩ | ⟨g1, g2⟩
      · exact .inl ⟨g1, by rw [he1, g2], by rw [hT]; exact g3⟩
      · exact .inr ⟨g1, by rw [he1, g2], by rw [hT, g2]⟩
    rw [← he1, ← hT] at HPC
    obtain ⟨mk, hmk⟩ : ∃ mk, mk = S.was.length := ⟨_, rfl⟩
    have HMKK := Lib.hid hmk
    rw [← hmk] at HMK
    clear hs4 hD4 hm4 hn0D he1 hT HPUT HTK HB3 HE3 HXS HBW hk1 hk2 hNi hmk
    go_upto_region 9 with (first
      | (go_at_call 33; refine HMK.out.mono ?_; rintro e w' ⟨rfl, rfl⟩)
      | (with_reducible refine wpList_load_mid (op := ⟨some 39, _, _, _, _, _⟩) rfl 37 _ rfl (n0) 0 rfl (inoL m (.slice ea m.ents.length ec)) _ HRG4.out Try.underlying37 rfl HISL.out ?_)
      | (go_at_call 65; refine HPC.out.mono ?_; rintro e w5 ⟨rfl, hk5⟩))
    have HS5 : Hid (SheetAt w5 p (grow Dk w4 w5) T) := hk5.1
    have hnK : ¬ Dk n0 := fun h => by have := HND.out n0 h; have := HSZ3.out; omega
    have HB5 : Hid (InoB w5 n0 m (.slice ea m.ents.length ec)) := HB4.out.mod hk5.2 hnK
    have HE5 : Hid (HoldsE w5 (.slice ea m.ents.length ec) m.ents) := HE4.out.mod hk5.2 (fun h0 g hg hd => by have h1 := HLE3.out h0 g hg; have h2 := HND.out g hd; have := HSZ3.out; omega)
    have HBW5 : Hid (Below w.heap.size w w5) := HBW4.out.trans (hk5.2.below HBW4.out.size (fun b hb => by have h1 := HND.out b hb; have h2 := HN0.out; have h3 := HSZ3.out; omega))
    have HNC := Lib.hid (fun wx (hm : Mod nob w5 wx) => ref_need8 HMO.out (HE5.out.mod hm (fun _ _ _ h => h)) HMR.out)
    have HRG5 := Lib.hid (HB5.out.at.range HMO.out.len)
    obtain ⟨nd, hnd⟩ : ∃ nd, nd = needI m := ⟨_, rfl⟩
    rw [← hnd] at HNC HPUT2 hnd40
    have HNDD := Lib.hid hnd
    clear hk5 hnK HRG4 HB4 HE4 HPC HMK HS4 hnd
    have HX : Hid (Mod nob w5 w5) := Mod.refl nob w5
    rcases HPUT2.out with ⟨g1, rfl, xs, g2, g3⟩ | ⟨g1, rfl, rfl⟩
    · have g1i : ¬ (k : Int) < (nd : Int) := by omega
      have HIN := Lib.hid g2
      have hfT : (k : Int) - (nd : Int) = ((freeN T : Nat) : Int) := by omega
      have HFT := Lib.hid hfT
      clear g1 g2 g3 HPUT2 hfT
      go_upto_region 11 with (first
        | (with_reducible refine wpList_load_mid (op := ⟨some 41, _, _, _, _, _⟩) rfl 37 _ rfl (n0) 0 rfl (inoL m (.slice ea m.ents.length ec)) _ HRG5.out Try.underlying37 rfl HISL.out ?_)
        | (go_at_call 66; refine (HNC.out _ HX.out).mono ?_; rintro e w6 ⟨rfl, hb6⟩))
      have HX6 : Hid (Mod nob w5 w6) := mod_of_below hb6
      have HGT := Lib.hid (get_ino (HS5.out.mod HX6.out (fun _ _ h => h)) 7)
      rw [HIN.out.get, HIN.out.err] at HGT
      clear hb6 g1i
      go_wp2_with fail
      refine HGT.out.mono ?_
      rintro e w7 ⟨hb7, mv, xv, rfl, hmv, hxv, -, -⟩
      have HB7 := Lib.hid hb7
      have HMV := Lib.hid hmv
      obtain ⟨ma, mc, rfl, -, -, -, -⟩ := hmv
      clear hb7 HGT hxv
      have hszA : (inoL m (.slice ma m.ents.length mc)).toArray.size = 18 := by simp [inoL_len HMO.out.len]
      have HTH : Hid ((w7.alloc (.cells z18 37)).there w7.heap.size 0 (inoL m (.slice ma m.ents.length mc)).toArray.size) := by
        unfold Hid; rw [hszA]; exact ino_there w7 _
      have HISZ : Hid ((Try.prog.info? 37).map (·.size) = some (inoL m (.slice ma m.ents.length mc)).toArray.size) := by
        unfold Hid; rw [hszA]; exact Try.info18
      have HISM : Hid ((Try.prog.info? 37).map (·.size) = some (inoL m (.slice ma m.ents.length mc)).length) := by
        unfold Hid; rw [inoL_len HMO.out.len]; exact Try.info18
      have HONE : Hid ((inoL m (.slice ma m.ents.length mc)).toArray.all (·.oneCell') = true) := all_oneCell_toArray (inoL_one rfl)
      have HROW := Lib.hid (ino_row w7 37 (inoL m (.slice ma m.ents.length mc)) (inoL_len HMO.out.len _))
      clear hszA
      go_upto_region 12 with (with_reducible refine wpList_store_mid (op := ⟨none, _, _, _, _, _⟩) rfl 37 _ _ rfl w7.heap.size 0 (inoL m (.slice ma m.ents.length mc)).toArray rfl rfl HTH.out HISZ.out HONE.out ?_)
      have HIX : Hid (InoB ((w7.alloc (.cells z18 37)).setCells w7.heap.size 0 (inoL m (.slice ma m.ents.length mc))) w7.heap.size m (.slice ma m.ents.length mc)) := ⟨HROW.out.1, HMO.out.len⟩
      have HMX : Hid (Mod nob w7 ((w7.alloc (.cells z18 37)).setCells w7.heap.size 0 (inoL m (.slice ma m.ents.length mc)))) := mod_of_below HROW.out.2
      clear HROW HTH HISZ HONE
      generalize (w7.alloc (.cells z18 37)).setCells w7.heap.size 0 (inoL m (.slice ma m.ents.length mc)) = w8 at *
      obtain ⟨X, hX⟩ : ∃ X, X = w7.heap.size := ⟨_, rfl⟩
      rw [← hX] at HIX ⊢
      clear hX
      have HX8 : Hid (Mod nob w5 w8) := (HX6.out.step (mod_of_below HB7.out) (fun _ h => h)).step HMX.out (fun _ h => h)
      have HX8d : Hid (Mod nob w5 w8.drew) := HX8.out.step ((Mod.refl nob w8).drew) (fun _ h => h)
      have HRA8 : Hid (w8.drew.rangeAt n0 0 (inoL m (.slice ea m.ents.length ec))) := (HB5.out.mod HX8d.out (fun h => h)).at.range HMO.out.len
      have HRX8 : Hid (w8.drew.rangeAt X 0 (inoL m (.slice ma m.ents.length mc))) := (HIX.out.mod ((Mod.refl nob w8).drew) (fun h => h)).at.range HMO.out.len
      have HSAME : Hid (∀ wx, Mod nob w8.drew wx → Calls Try.prog 26 #[.agg (inoL m (.slice ma m.ents.length mc)).toArray, .agg (inoL m (.slice ea m.ents.length ec)).toArray] wx fun e w' => e = .returned (.bool true) ∧ Below wx.heap.size wx w') := fun wx hm => same6 HMO.out ((HMV.out.mod (HMX.out.step ((Mod.refl nob w8).drew) (fun _ h => h)) (fun _ _ _ h => h)).mod hm (fun _ _ _ h => h)) ((HE5.out.mod HX8d.out (fun _ _ _ h => h)).mod hm (fun _ _ _ h => h))
      have HFR : Hid (∀ wx, Mod nob w8.drew wx → Calls Try.prog 69 #[.pointer (some ⟨p, 0, none⟩)] wx fun e w' => e = .returned (.int .i64 (freeN T : Nat)) ∧ wx = w') := fun wx hm => free_any ((HS5.out.mod HX8d.out (fun _ _ h => h)).mod hm (fun _ _ h => h))
      have HNC8 : Hid (∀ wx, Mod nob w8.drew wx → Calls Try.prog 66 #[.agg (inoL m (.slice ea m.ents.length ec)).toArray] wx fun e w' => e = .returned (.int .i64 (nd : Nat)) ∧ Below wx.heap.size wx w') := fun wx hm => HNC.out wx (HX8d.out.step hm (fun _ h => h))
      have HBW8 : Hid (Below w.heap.size w w8.drew) := HBW5.out.trans (HX8d.out.below HBW5.out.size (fun b h => h.elim))
      have HU37 := Lib.hid Try.underlying37
      obtain ⟨AM, hAM⟩ : ∃ v, v = Value.agg (inoL m (.slice ma m.ents.length mc)).toArray := ⟨_, rfl⟩
      obtain ⟨AE, hAE⟩ : ∃ v, v = Value.agg (inoL m (.slice ea m.ents.length ec)).toArray := ⟨_, rfl⟩
      rw [← hAM, ← hAE] at HSAME
      rw [← hAE] at HNC8
      have HAM := Lib.hid hAM
      have HAE := Lib.hid hAE
      clear hAM hAE
      obtain ⟨F, hF⟩ : ∃ F, F = freeN T := ⟨_, rfl⟩
      rw [← hF] at HFT HFR
      have hF13 : (k : Int) - (nd : Int) = (F : Int) := HFT.out
      have iF : IntKind.i64.wrap (F : Int) = (F : Int) := by rw [IntKind.wrap_i64]; omega
      clear hF HFT HX6 HMX HIX HMV HB7 HRG5 HNC HX8 HX8d HBW4 HBW5 HX
      refine wp_region_noPanic ?_
      refine wp_region_held_drew (S := fun w' => w'.rangeAt X 0 (inoL m (.slice ma m.ents.length mc)) ∧ w'.rangeAt n0 0 (inoL m (.slice ea m.ents.length ec))) (by kernel_rfl) ⟨HRX8.out, HRA8.out⟩ (fun hHeld => ?_)
      refine wpAnyH_take (i := 0) (v := .int .i64 0) rfl (by kernel_rfl) (by kernel_rfl) (by kernel_rfl) (fun _ _ _ h => h) (Or.inl ⟨by kernel_rfl, ?_⟩) hHeld ?_
      case refine_1 =>
        rintro wx -
        go_simp
      change wpAnyH _ _ _ _ _ _ _ (Act.put _ (some 63) _) _
      simp only [Act.put, List.setIfInBounds_toArray, List.set_cons_zero, List.set_cons_succ]
      refine wpAnyH_take (i := 1) (v := .bool true) rfl (by kernel_rfl) (by kernel_rfl) (by kernel_rfl) (fun _ _ _ h => h) (Or.inl ⟨by kernel_rfl, ?_⟩) hHeld ?_
      case refine_1 =>
        rintro wx -
        go_simp
      change wpAnyH _ _ _ _ _ _ _ (Act.put _ (some 64) _) _
      simp only [Act.put, List.setIfInBounds_toArray, List.set_cons_zero, List.set_cons_succ]
      refine wpAnyH_take (i := 2) (v := .bool true) rfl (by kernel_rfl) (by kernel_rfl) (by kernel_rfl) (fun _ _ _ h => h) (Or.inl ⟨by kernel_rfl, ?_⟩) hHeld ?_
      case refine_1 =>
        rintro wx -
        go_simp
      change wpAnyH _ _ _ _ _ _ _ (Act.put _ (some 65) _) _
      simp only [Act.put, List.setIfInBounds_toArray, List.set_cons_zero, List.set_cons_succ]
      refine wpAnyH_take (i := 3) (v := .int .i64 0) rfl (by kernel_rfl) (by kernel_rfl) (by kernel_rfl) (fun _ _ _ h => h) (Or.inl ⟨by kernel_rfl, ?_⟩) hHeld ?_
      case refine_1 =>
        rintro wx -
        go_simp
      change wpAnyH _ _ _ _ _ _ _ (Act.put _ (some 66) _) _
      simp only [Act.put, List.setIfInBounds_toArray, List.set_cons_zero, List.set_cons_succ]
      refine wpAnyH_take (i := 4) (v := .bool true) rfl (by kernel_rfl) (by kernel_rfl) (by kernel_rfl) (fun _ _ _ h => h) (Or.inl ⟨by kernel_rfl, ?_⟩) hHeld ?_
      case refine_1 =>
        rintro wx -
        go_simp
      change wpAnyH _ _ _ _ _ _ _ (Act.put _ (some 67) _) _
      simp only [Act.put, List.setIfInBounds_toArray, List.set_cons_zero, List.set_cons_succ]
      refine wpAnyH_take (i := 5) (v := .bool true) rfl (by kernel_rfl) (by kernel_rfl) (by kernel_rfl) (fun _ _ _ h => h) (Or.inl ⟨by kernel_rfl, ?_⟩) hHeld ?_
      case refine_1 =>
        rintro wx -
        go_simp
      change wpAnyH _ _ _ _ _ _ _ (Act.put _ (some 68) _) _
      simp only [Act.put, List.setIfInBounds_toArray, List.set_cons_zero, List.set_cons_succ]
      refine wpAnyH_take (i := 6) (v := .bool true) rfl (by kernel_rfl) (by kernel_rfl) (by kernel_rfl) (fun _ _ _ h => h) (Or.inl ⟨by kernel_rfl, ?_⟩) hHeld ?_
      case refine_1 =>
        rintro wx -
        go_simp
      change wpAnyH _ _ _ _ _ _ _ (Act.put _ (some 69) _) _
      simp only [Act.put, List.setIfInBounds_toArray, List.set_cons_zero, List.set_cons_succ]
      refine wpAnyH_take (i := 7) (oi := ⟨some 70, .load 37 (.tmp 9), 37, _, _, some (6, true)⟩) (v := AM) rfl (by kernel_rfl) (by kernel_rfl) (by kernel_rfl) (fun _ _ _ h => h) (by rw [HAM.out]; exact yieldsIf_load_mid (by kernel_rfl) 37 (.tmp 9) rfl X 0 rfl _ _ (fun _ h => h.1) HU37.out rfl HISM.out) hHeld ?_
      change wpAnyH _ _ _ _ _ _ _ (Act.put _ (some 70) _) _
      simp only [Act.put, List.setIfInBounds_toArray, List.set_cons_zero, List.set_cons_succ]
      refine wpAnyH_take (i := 8) (oi := ⟨some 71, .load 37 (.tmp 2), 37, _, _, some (6, true)⟩) (v := AE) rfl (by kernel_rfl) (by kernel_rfl) (by kernel_rfl) (fun _ _ _ h => h) (by rw [HAE.out]; exact yieldsIf_load_mid (by kernel_rfl) 37 (.tmp 2) rfl n0 0 rfl _ _ (fun _ h => h.2) HU37.out rfl HISL.out) hHeld ?_
      change wpAnyH _ _ _ _ _ _ _ (Act.put _ (some 71) _) _
      simp only [Act.put, List.setIfInBounds_toArray, List.set_cons_zero, List.set_cons_succ]
      refine wpAnyH_ready (rs := [9]) (by kernel_rfl) (by simp) ?_
      refine AllReadyH.cons rfl (fun K hK => ?_) AllReadyH.nil
      go_simp
      refine (HSAME.out _ (Mod.refl nob _)).mono ?_
      rintro e w9 ⟨rfl, hb9⟩
      have HX9 : Hid (Mod nob w8.drew w9) := mod_of_below hb9
      clear hb9
      go_wp2_with fail
      refine hK.out _ _ ⟨fun j v hj => HX9.out.cell (HRX8.out j v hj) (fun h => h), fun j v hj => HX9.out.cell (HRA8.out j v hj) (fun h => h)⟩ (fun hHeld2 => ?_)
      clear hK K
      try simp only [Act.put, List.setIfInBounds_toArray, List.set_cons_zero, List.set_cons_succ]
      refine wpAnyH_take (i := 10) (v := .bool true) rfl (by kernel_rfl) (by kernel_rfl) (by kernel_rfl) (fun _ _ _ h => h) (Or.inl ⟨by kernel_rfl, ?_⟩) hHeld2 ?_
      case refine_1 =>
        rintro wx -
        go_simp
      change wpAnyH _ _ _ _ _ _ _ (Act.put _ (some 73) _) _
      simp only [Act.put, List.setIfInBounds_toArray, List.set_cons_zero, List.set_cons_succ]
      refine wpAnyH_take (i := 11) (v := .bool true) rfl (by kernel_rfl) (by kernel_rfl) (by kernel_rfl) (fun _ _ _ h => h) (Or.inl ⟨by kernel_rfl, ?_⟩) hHeld2 ?_
      case refine_1 =>
        rintro wx -
        go_simp
      change wpAnyH _ _ _ _ _ _ _ (Act.put _ (some 74) _) _
      simp only [Act.put, List.setIfInBounds_toArray, List.set_cons_zero, List.set_cons_succ]
      refine wpAnyH_take (i := 12) (v := .pointer (some ⟨p, 0, none⟩)) rfl (by kernel_rfl) (by kernel_rfl) (by kernel_rfl) (fun _ _ _ h => h) (Or.inl ⟨by kernel_rfl, ?_⟩) hHeld2 ?_
      case refine_1 =>
        rintro wx -
        go_simp
      change wpAnyH _ _ _ _ _ _ _ (Act.put _ (some 75) _) _
      simp only [Act.put, List.setIfInBounds_toArray, List.set_cons_zero, List.set_cons_succ]
      refine wpAnyH_take (i := 14) (v := .int .i64 (k : Int)) rfl (by kernel_rfl) (by kernel_rfl) (by kernel_rfl) (fun _ _ _ h => h) (Or.inl ⟨by kernel_rfl, ?_⟩) hHeld2 ?_
      case refine_1 =>
        rintro wx -
        go_simp
      change wpAnyH _ _ _ _ _ _ _ (Act.put _ (some 77) _) _
      simp only [Act.put, List.setIfInBounds_toArray, List.set_cons_zero, List.set_cons_succ]
      refine wpAnyH_take (i := 15) (oi := ⟨some 78, .load 37 (.tmp 2), 37, _, _, some (11, true)⟩) (v := AE) rfl (by kernel_rfl) (by kernel_rfl) (by kernel_rfl) (fun _ _ _ h => h) (by rw [HAE.out]; exact yieldsIf_load_mid (by kernel_rfl) 37 (.tmp 2) rfl n0 0 rfl _ _ (fun _ h => h.2) HU37.out rfl HISL.out) hHeld2 ?_
      change wpAnyH _ _ _ _ _ _ _ (Act.put _ (some 78) _) _
      simp only [Act.put, List.setIfInBounds_toArray, List.set_cons_zero, List.set_cons_succ]
      refine wpAnyH_ready (rs := [13]) (by kernel_rfl) (by simp) ?_
      refine AllReadyH.cons rfl (fun K hK => ?_) AllReadyH.nil
      go_simp
      refine (HFR.out _ HX9.out).mono ?_
      rintro e w' ⟨rfl, rfl⟩
      go_wp2_with fail
      refine hK.out _ _ ⟨fun j v hj => HX9.out.cell (HRX8.out j v hj) (fun h => h), fun j v hj => HX9.out.cell (HRA8.out j v hj) (fun h => h)⟩ (fun hHeld3 => ?_)
      clear hK K
      try simp only [Act.put, List.setIfInBounds_toArray, List.set_cons_zero, List.set_cons_succ]
      refine wpAnyH_ready (rs := [16]) (by kernel_rfl) (by simp) ?_
      refine AllReadyH.cons rfl (fun K hK => ?_) AllReadyH.nil
      go_simp
      refine (HNC8.out _ HX9.out).mono ?_
      rintro e w10 ⟨rfl, hb10⟩
      have HX10 : Hid (Mod nob w8.drew w10) := HX9.out.step (mod_of_below hb10) (fun _ h => h)
      clear hb10
      go_wp2_with fail
      refine hK.out _ _ ⟨fun j v hj => HX10.out.cell (HRX8.out j v hj) (fun h => h), fun j v hj => HX10.out.cell (HRA8.out j v hj) (fun h => h)⟩ (fun hHeld4 => ?_)
      clear hK K
      try simp only [Act.put, List.setIfInBounds_toArray, List.set_cons_zero, List.set_cons_succ]
      refine wpAnyH_take (i := 17) (v := .int .i64 (F : Int)) rfl (by kernel_rfl) (by kernel_rfl) (by kernel_rfl) (fun _ _ _ h => h) (Or.inl ⟨by kernel_rfl, ?_⟩) hHeld4 ?_
      case refine_1 =>
        rintro wx -
        go_simp
      change wpAnyH _ _ _ _ _ _ _ (Act.put _ (some 80) _) _
      simp only [Act.put, List.setIfInBounds_toArray, List.set_cons_zero, List.set_cons_succ]
      refine wpAnyH_take (i := 18) (v := .bool true) rfl (by kernel_rfl) (by kernel_rfl) (by kernel_rfl) (fun _ _ _ h => h) (Or.inl ⟨by kernel_rfl, ?_⟩) hHeld4 ?_
      case refine_1 =>
        rintro wx -
        go_simp
      change wpAnyH _ _ _ _ _ _ _ (Act.put _ (some 81) _) _
      simp only [Act.put, List.setIfInBounds_toArray, List.set_cons_zero, List.set_cons_succ]
      refine wpAnyH_take (i := 19) (v := .bool true) rfl (by kernel_rfl) (by kernel_rfl) (by kernel_rfl) (fun _ _ _ h => h) (Or.inl ⟨by kernel_rfl, ?_⟩) hHeld4 ?_
      case refine_1 =>
        rintro wx -
        go_simp
      change wpAnyH _ _ _ _ _ _ _ (Act.put _ (some 82) _) _
      simp only [Act.put, List.setIfInBounds_toArray, List.set_cons_zero, List.set_cons_succ]
      refine wpAnyH_take (i := 20) (v := .bool true) rfl (by kernel_rfl) (by kernel_rfl) (by kernel_rfl) (fun _ _ _ h => h) (Or.inl ⟨by kernel_rfl, ?_⟩) hHeld4 ?_
      case refine_1 =>
        rintro wx -
        go_simp
      change wpAnyH _ _ _ _ _ _ _ (Act.put _ (some 4) _) _
      simp only [Act.put, List.setIfInBounds_toArray, List.set_cons_zero, List.set_cons_succ]
      refine wpAnyH_done (by kernel_rfl) ?_ _
      refine NoPanic.normal ?_
      clear hHeld hHeld2
      go_wp2_with fail
      go_ret
      exact ⟨rfl, HBW8.out.trans (HX10.out.below HBW8.out.size (fun b h => h.elim))⟩
    · have g1i : (k : Int) < (nd : Int) := by omega
      have HMK5 : Hid (∀ wx, Mod nob w5 wx → Calls Try.prog 33 #[.pointer (some ⟨p, 0, none⟩)] wx fun e w' => e = .returned (.int .i64 mk) ∧ wx = w') := fun wx hm => by
        have := sheet_mark (HS5.out.mod hm (fun _ _ h => h))
        rw [← HMKK.out] at this
        exact this
      have HFR5 : Hid (∀ wx, Mod nob w5 wx → Calls Try.prog 67 #[.pointer (some ⟨p, 0, none⟩), .int .i64 7] wx fun e w' => e = .returned (.bool true) ∧ wx = w') := fun wx hm => by
        have := ino_free (HS5.out.mod hm (fun _ _ h => h)) 7
        rw [HF7.out] at this
        exact this
      clear g1 HPUT2
      go_upto_region 10 with (first
        | (with_reducible refine wpList_load_mid (op := ⟨some 41, _, _, _, _, _⟩) rfl 37 _ rfl (n0) 0 rfl (inoL m (.slice ea m.ents.length ec)) _ HRG5.out Try.underlying37 rfl HISL.out ?_)
        | (go_at_call 66; refine (HNC.out _ HX.out).mono ?_; rintro e w6 ⟨rfl, hb6⟩))
      have HX6 : Hid (Mod nob w5 w6) := mod_of_below hb6
      clear hb6
      go_wp2_with (first
        | (go_at_call 33; refine (HMK5.out _ HX6.out).mono ?_; rintro e w' ⟨rfl, rfl⟩)
        | (go_at_call 67; refine (HFR5.out _ HX6.out).mono ?_; rintro e w' ⟨rfl, rfl⟩))
      go_ret
      exact ⟨rfl, HBW5.out.trans (HX6.out.below HBW5.out.size (fun b h => h.elim))⟩
  · have hno : b1 = false ∨ b1 = true ∧ b2 = false := by
      cases b1
      · exact .inl rfl
      · cases b2
        · exact .inr ⟨rfl, rfl⟩
        · exact absurd ⟨rfl, rfl⟩ hgo
    clear hgo
    rcases hno with rfl | ⟨rfl, rfl⟩
    all_goals
      go_upto_if 23 with (first
        | ((refine wpList_unguard (o := ⟨some 15, _, _, _, _, _⟩) (by rfl) ?_; with_reducible refine wpList_load_mid (op := ⟨some 15, _, _, _, _, _⟩) rfl 37 _ rfl (n0) 0 rfl (inoL n (.slice ea n.ents.length ec)) _ HRA.out Try.underlying37 rfl HSA.out ?_))
        | ((refine wpList_unguard (o := ⟨some 20, _, _, _, _, _⟩) (by rfl) ?_; with_reducible refine wpList_load_mid (op := ⟨some 20, _, _, _, _, _⟩) rfl 37 _ rfl (n0) 0 rfl (inoL n (.slice ea n.ents.length ec)) _ HRA.out Try.underlying37 rfl HSA.out ?_))
        | (go_at_call 22; with_reducible refine (HFA.out _ HX.out).mono ?_; rintro e wz ⟨rfl, hbz⟩; have HX := Lib.hid (HX.out.step (mod_of_below hbz) (fun _ h => h)); clear hbz; have HRA := Lib.hid ((HA0.out.mod HX.out (fun h => h)).at.range HNO.out.len))
        | (go_at_call 29; with_reducible refine (HRR.out _ HX.out).mono ?_; rintro e wz ⟨rfl, hbz⟩; have HX := Lib.hid (HX.out.step (mod_of_below hbz) (fun _ h => h)); clear hbz; have HRA := Lib.hid ((HA0.out.mod HX.out (fun h => h)).at.range HNO.out.len)))
      go_wp2_with fail
      refine (HAW.out _).mono ?_
      rintro e we ⟨rfl, hbz⟩
      have HX := Lib.hid (HX.out.step (mod_of_below hbz) (fun _ h => h))
      clear hbz
      go_wp2_with fail
      go_ret
      exact ⟨rfl, HBEL.out.trans (HX.out.below (by have := HZ.out; have := HN0.out; omega) (fun b h => h.elim))⟩
end Go.Proofs.Ytfpnmphmngdkdaa
