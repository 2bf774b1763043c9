/-
  The law Fmt2Lays: the walk. No condition.
-/
import Derived.Test.YtfpnmphmngdkdaaQRd2
import Derived.Test.YtfpnmphmngdkdaaQAwake7
import Derived.Test.YtfpnmphmngdkdaaQDec2
import Derived.Test.YtfpnmphmngdkdaaQLayGet
import Derived.Test.YtfpnmphmngdkdaaQFew6
import Derived.Test.YtfpnmphmngdkdaaQRefRight
import Derived.Test.YtfpnmphmngdkdaaQBits6

namespace Go.Proofs.Ytfpnmphmngdkdaa
open Go.ChangeShapes Go.WideShapes Go.ChangeAt Go.RowKit
set_option linter.unusedSimpArgs false
set_option linter.unusedVariables false

theorem S6_bit (a : Nat → Int) (b : Nat) (hb : b < 256) : bitB (S6 a) b = bitOf a b := by
  unfold bitB bitOf
  rw [S6_now a _ (by omega)]
  unfold part5
  rw [if_pos (by omega), Nat.add_sub_cancel_left]
theorem S6_zero (a : Nat → Int) (j : Int) (hj : 820 ≤ j) : (S6 a).get j = 0 := by
  by_cases h : j < 3128
  · have e : j = ((j.toNat : Nat) : Int) := by omega
    rw [e, get_natx _ _ (by omega), S6_now a _ (by omega)]
    unfold part5
    rw [if_neg (by omega)]
  · unfold Sh.get
    rw [if_neg (by omega)]
theorem S6_free (a : Nat → Int) : freeF (bitOf a) 1 255 = freeL (S6 a) 1 255 := by
  rw [← freeF_eq]
  exact freeF_congr _ _ _ _ (fun c h1 h2 => (S6_bit a c (by omega)).symm)

/-- Each word is the reference's, where an inode was laid over noughts. -/
theorem lays2_word (a : Nat → Int) (i : Int) (hi : 0 ≤ i ∧ i < 32) (n : Ino) (hfree : need2 n ≤ freeN (S6 a)) (j : Int) (h0 : 820 ≤ j) (h1 : j < 3128) :
    (word2At n (824 + i * 8) (own2S (S6 a) n) j).1 = (lay2S (S6 a) i n).get j := by
  have h := tookN (S6 a) (need2 n) hfree
  have hob : ∀ b ∈ own2S (S6 a) n, b < 256 := fun b hb => (h.mem b hb).2.1
  have hap : ApartTo (own2S (S6 a) n) (own2S (S6 a) n).length := apartTo_pair h.pair
  have ho : OwnOK (own2S (S6 a) n) (own2S (S6 a) n).length := ⟨fun b hb => getD_lt hob b, fun b c hbc hc => hap b c hbc hc⟩
  unfold lay2S
  refine (put2_word _ (by omega) n (own2S (S6 a) n) hob ho h.len j ⟨h0, h1⟩ (fun _ => ?_)).symm
  by_cases hx : ∃ x ∈ own2S (S6 a) n, 1080 + (x : Int) * 8 ≤ j ∧ j < 1088 + (x : Int) * 8
  · obtain ⟨x, hm, h2, h3⟩ := hx
    have := h.zero x hm (j - (1080 + (x : Int) * 8)).toNat (by omega)
    rw [show 1080 + (x : Int) * 8 + (((j - (1080 + (x : Int) * 8)).toNat : Nat) : Int) = j by omega] at this
    exact this
  · rw [h.out j h0 (fun x hm => by
      by_cases h2 : 1080 + (x : Int) * 8 ≤ j ∧ j < 1088 + (x : Int) * 8
      · exact absurd ⟨x, hm, h2⟩ hx
      · omega)]
    exact S6_zero a j h0

set_option maxRecDepth 20000 in
set_option maxHeartbeats 8000000 in
theorem law_lays2 {w : World} (a : Nat → Int) (ha : ∀ i, 0 ≤ a i ∧ a i < 18446744073709551616) (i : Int) (hi : i64 i) {n : Ino} {ev : Value} (hn : n.Ok) (he : HoldsE w ev n.ents) :
    Calls Try.prog 8 #[.agg #[.int .u64 (a 0), .int .u64 (a 1), .int .u64 (a 2), .int .u64 (a 3)], .int .i64 i, .agg (inoA n ev)] w fun e w' => e = .returned (.bool true) ∧ Below w.heap.size w w' := by
  have HNO := Lib.hid hn
  have HBEL : Hid (Below w.heap.size w ((w.alloc (.cells #[.int .u64 (a 0), .int .u64 (a 1), .int .u64 (a 2), .int .u64 (a 3)] 42)).alloc (.cells (inoA n ev) 37))) := ((Below.refl _ _).alloc (Nat.le_refl _) _).alloc (by simp) _
  have HA0 : Hid (InoB ((w.alloc (.cells #[.int .u64 (a 0), .int .u64 (a 1), .int .u64 (a 2), .int .u64 (a 3)] 42)).alloc (.cells (inoA n ev) 37)) (w.heap.size + 1) n ev) := by
    have := InoB.new (w.alloc (.cells #[.int .u64 (a 0), .int .u64 (a 1), .int .u64 (a 2), .int .u64 (a 3)] 42)) hn.len ev
    rw [show (w.alloc (.cells #[.int .u64 (a 0), .int .u64 (a 1), .int .u64 (a 2), .int .u64 (a 3)] 42)).heap.size = w.heap.size + 1 by simp] at this
    exact this
  have HR4 : Hid (((w.alloc (.cells #[.int .u64 (a 0), .int .u64 (a 1), .int .u64 (a 2), .int .u64 (a 3)] 42)).alloc (.cells (inoA n ev) 37)).rangeAt w.heap.size 0 [Value.int .u64 (a 0), .int .u64 (a 1), .int .u64 (a 2), .int .u64 (a 3)]) := by
    intro j v hv
    have h1 := rangeAt_new w [Value.int .u64 (a 0), .int .u64 (a 1), .int .u64 (a 2), .int .u64 (a 3)] 42 (0, 0) j v hv
    exact ((Mod.refl nob _).alloc _).cell h1 (fun h => h)
  have HS4 : Hid ((Try.prog.info? 42).map (·.size) = some ([Value.int .u64 (a 0), .int .u64 (a 1), .int .u64 (a 2), .int .u64 (a 3)]).length) := by unfold Hid; kernel_rfl
  have HE := Lib.hid (he.below HBEL.out)
  have HLE : Hid (n.ents ≠ [] → ∀ g, ev.ownBlock = some g → g < w.heap.size) := he.lt
  obtain ⟨ea, ec, rfl, -, -, -, -⟩ := he
  obtain ⟨b1, hb1⟩ : ∃ x, x = fewB n := ⟨_, rfl⟩
  have HFA : Hid (∀ wx, Mod nob ((w.alloc (.cells #[.int .u64 (a 0), .int .u64 (a 1), .int .u64 (a 2), .int .u64 (a 3)] 42)).alloc (.cells (inoA n (.slice ea n.ents.length ec)) 37)) wx → Calls Try.prog 22 #[.agg (inoL n (.slice ea n.ents.length ec)).toArray] wx fun e w' => e = .returned (.bool b1) ∧ Below wx.heap.size wx w') := fun wx hm => by
    rw [hb1]
    exact few6 HNO.out (HE.out.mod hm (fun _ _ _ h => h))
  have HSA : Hid ((Try.prog.info? 37).map (·.size) = some (inoL n (.slice ea n.ents.length ec)).length) := by
    unfold Hid; rw [inoL_len hn.len]; exact Try.info18
  have HAW : Hid (∀ wx, Calls Try.prog 37 #[] wx fun e w' => e = .returned (.bool true) ∧ Below wx.heap.size wx w') := fun wx => awake7 wx
  have HSH : Hid (∀ wx, Calls Try.prog 23 #[.agg ([Value.int .u64 (a 0), .int .u64 (a 1), .int .u64 (a 2), .int .u64 (a 3)]).toArray] wx fun e w' => ∃ p, e = .returned (.pointer (some ⟨p, 0, none⟩)) ∧ SheetAt w' p (grow nob wx w') (S6 a) ∧ Below wx.heap.size wx w') := fun wx => sheet6_any a ha
  have HBT : Hid (∀ wx, Calls Try.prog 35 #[.agg ([Value.int .u64 (a 0), .int .u64 (a 1), .int .u64 (a 2), .int .u64 (a 3)]).toArray] wx fun e w' => ∃ g, e = .returned (.slice (some ⟨g, 0, none⟩) 256 256) ∧ wx.heap.size ≤ g ∧ Bools w' g (bitOf a) ∧ Below wx.heap.size wx w') := fun wx => bits_any a ha
  have hsz0 : ((w.alloc (.cells #[.int .u64 (a 0), .int .u64 (a 1), .int .u64 (a 2), .int .u64 (a 3)] 42)).alloc (.cells (inoA n (.slice ea n.ents.length ec)) 37)).heap.size = w.heap.size + 2 := by simp
  have HZ := Lib.hid hsz0
  obtain ⟨i0, i1⟩ := hi
  clear hn hb1 hsz0 ha
  go_enter Try.func8, Try.ntmps8
  go_wp2_with fail
  generalize (w.alloc (.cells #[.int .u64 (a 0), .int .u64 (a 1), .int .u64 (a 2), .int .u64 (a 3)] 42)).alloc (.cells (inoA n (.slice ea n.ents.length ec)) 37) = w0 at *
  obtain ⟨n0, hn0⟩ : ∃ n0, n0 = w.heap.size := ⟨_, rfl⟩
  have HN0 := Lib.hid hn0
  rw [← hn0] at HA0 HZ HLE HR4 ⊢
  clear hn0
  have HX : Hid (Mod nob w0 w0) := Mod.refl nob w0
  refine (HAW.out _).mono ?_
  rintro e wz ⟨rfl, hbz⟩
  have HX := Lib.hid (HX.out.step (mod_of_below hbz) (fun _ h => h))
  clear hbz
  have HRA := Lib.hid ((HA0.out.mod HX.out (fun h => h)).at.range HNO.out.len)
  cases b1 with
  | true =>
    go_upto_region 3 with (first
        | ((refine wpList_unguard (o := ⟨some 23, _, _, _, _, _⟩) (by rfl) ?_; with_reducible refine wpList_load_mid (op := ⟨some 23, _, _, _, _, _⟩) rfl 37 _ rfl (n0 + 1) 0 rfl (inoL n (.slice ea n.ents.length ec)) _ HRA.out Try.underlying37 rfl HSA.out ?_))
        | (go_at_call 22; with_reducible refine (HFA.out _ HX.out).mono ?_; rintro e wz ⟨rfl, hbz⟩; have HX := Lib.hid (HX.out.step (mod_of_below hbz) (fun _ h => h)); clear hbz; have HRA := Lib.hid ((HA0.out.mod HX.out (fun h => h)).at.range HNO.out.len)))
    have HR4z : Hid (wz.rangeAt n0 0 [Value.int .u64 (a 0), .int .u64 (a 1), .int .u64 (a 2), .int .u64 (a 3)]) := fun j v hj => HX.out.cell (HR4.out j v hj) (fun h => h)
    go_upto_region 4 with (first
      | (with_reducible refine wpList_load_mid (op := ⟨some 28, _, _, _, _, _⟩) rfl 42 _ rfl n0 0 rfl ([Value.int .u64 (a 0), .int .u64 (a 1), .int .u64 (a 2), .int .u64 (a 3)]) _ HR4z.out Try.underlying42 rfl HS4.out ?_)
      | (go_at_call 23; with_reducible refine (HSH.out _).mono ?_; rintro e ws ⟨p, rfl, hs, hbz⟩))
    have HXS : Hid (Mod nob w0 ws) := HX.out.step (mod_of_below hbz) (fun _ h => h)
    have hz1 := HX.out.size
    obtain ⟨D, hD⟩ : ∃ D, D = grow nob wz ws := ⟨_, rfl⟩
    rw [← hD] at hs
    have HD : Hid (∀ b, D b → n0 + 2 ≤ b) := fun b hb => by
      rw [hD] at hb
      have := HZ.out
      rcases hb with hb | hb
      · exact hb.elim
      · omega
    obtain ⟨S, hS⟩ : ∃ S, S = S6 a := ⟨_, rfl⟩
    rw [← hS] at hs
    have hwas : S.was.length = 0 := by rw [hS]; rfl
    obtain ⟨e1, he1⟩ : ∃ x, x = lay2E S i n := ⟨_, rfl⟩
    obtain ⟨T, hT⟩ : ∃ x, x = lay2T S i n := ⟨_, rfl⟩
    have HLA : Hid (Calls Try.prog 38 #[.pointer (some ⟨p, 0, none⟩), .int .i64 i, .agg (inoL n (.slice ea n.ents.length ec)).toArray] ws fun e w' => e = .returned (.int .i64 e1) ∧ ShStep ws p D w' T) := by
      rw [he1, hT]
      exact lay2_any hs (by omega) i HNO.out (HE.out.mod HXS.out (fun _ _ _ h => h)) (fun h0 g hg hdg => by have h1 := HLE.out h0 g hg; have h2 := HD.out g hdg; omega)
    have HRA := Lib.hid ((HA0.out.mod HXS.out (fun h => h)).at.range HNO.out.len)
    have HSS := Lib.hid hS
    have HE1 := Lib.hid he1
    have HTT := Lib.hid hT
    have HWAS := Lib.hid hwas
    clear hs hbz hz1 hD hS hwas he1 hT HAW HSH HFA HX HR4z
    go_upto_region 5 with (first
      | (with_reducible refine wpList_load_mid (op := ⟨some 32, _, _, _, _, _⟩) rfl 37 _ rfl (n0 + 1) 0 rfl (inoL n (.slice ea n.ents.length ec)) _ HRA.out Try.underlying37 rfl HSA.out ?_)
      | (go_at_call 38; with_reducible refine HLA.out.mono ?_; rintro e w5 ⟨rfl, hk5⟩))
    have HK5 := Lib.hid hk5
    have HBS : Hid (Below w.heap.size w ws) := by
      have h1 := HN0.out
      have h2 := HZ.out
      exact HBEL.out.trans (HXS.out.below (by omega) (fun b h => h.elim))
    have HNA : Hid (¬ D n0) := fun h => by have := HD.out _ h; omega
    have HNB : Hid (¬ D (n0 + 1)) := fun h => by have := HD.out _ h; omega
    have HB5 : Hid (Below w.heap.size w w5) := HBS.out.trans (hk5.2.below HBS.out.size (fun b h => by have := HD.out b h; have := HN0.out; omega))
    have HST : Hid (SheetAt w5 p (grow D ws w5) T) := hk5.1
    have HE := Lib.hid ((HE.out.mod HXS.out (fun _ _ _ h => h)).mod hk5.2 (fun h0 g hg hdg => by have h1 := HLE.out h0 g hg; have h2 := HD.out g hdg; omega))
    have HR4 : Hid (w5.rangeAt n0 0 [Value.int .u64 (a 0), .int .u64 (a 1), .int .u64 (a 2), .int .u64 (a 3)]) := fun j v hj => hk5.2.cell (HXS.out.cell (HR4.out j v hj) (fun h => h)) HNA.out
    have HA0 := Lib.hid ((HA0.out.mod HXS.out (fun h => h)).mod hk5.2 HNB.out)
    have HRR : Hid (∀ wx, Mod nob w5 wx → Calls Try.prog 29 #[.agg (inoL n (.slice ea n.ents.length ec)).toArray] wx fun e w' => e = .returned (.bool (rightB n)) ∧ Below wx.heap.size wx w') := fun wx hm => ref_right HNO.out (HE.out.mod hm (fun _ _ _ h => h))
    obtain ⟨br, hbr⟩ : ∃ br, br = rightB n := ⟨_, rfl⟩
    rw [← hbr] at HRR
    have HBR := Lib.hid hbr
    clear hk5 hbr HXS HBS HBEL HZ HLE HLA HK5 HNA HNB
    have HX : Hid (Mod nob w5 w5) := Mod.refl nob w5
    have HRA := Lib.hid (HA0.out.at.range HNO.out.len)
    obtain ⟨fo, hfo⟩ : ∃ fo, fo = n.format := ⟨_, rfl⟩
    have HFO := Lib.hid hfo
    clear hfo
    by_cases hbad : LayBad2 i n
    · have hT : T = S := by rw [HTT.out]; unfold lay2T; rw [if_pos hbad]
      have h1 : e1 = 1 := by rw [HE1.out]; unfold lay2E; rw [if_pos hbad]
      have HMK : Hid (∀ wx, Mod nob w5 wx → Calls Try.prog 33 #[.pointer (some ⟨p, 0, none⟩)] wx fun e w' => e = .returned (.int .i64 0) ∧ wx = w') := fun wx hm => by
        have := sheet_mark (HST.out.mod hm (fun _ _ h => h))
        rw [hT, HWAS.out] at this
        exact this
      subst h1
      have hc : i < 0 ∨ 31 < i ∨ (¬ i < 0 ∧ ¬ 31 < i ∧ br = false) ∨ (¬ i < 0 ∧ ¬ 31 < i ∧ br = true ∧ fo ≠ 2) := by
        by_cases g1 : i < 0
        · exact .inl g1
        · by_cases g2 : 31 < i
          · exact .inr (.inl g2)
          · cases hb : br with
            | false => exact .inr (.inr (.inl ⟨g1, g2, rfl⟩))
            | true =>
              refine .inr (.inr (.inr ⟨g1, g2, rfl, fun h => ?_⟩))
              have hr : RightP n := (rightB_iff n).1 (by rw [← HBR.out]; exact hb)
              unfold LayBad2 at hbad
              rcases hbad with g | g | g | g
              · omega
              · omega
              · exact g hr
              · exact g (by rw [← HFO.out]; exact h)
      clear hbad hT HE1 HTT
      rcases hc with g1 | g2 | ⟨g1, g2, rfl⟩ | ⟨g1, g2, rfl, g3⟩
      · go_wp2_with (go_at_call 33; with_reducible refine (HMK.out _ HX.out).mono ?_; rintro e wz ⟨rfl, rfl⟩)
        go_ret
        exact ⟨rfl, HB5.out.trans (HX.out.below HB5.out.size (fun b h => h.elim))⟩
      · have g1 : ¬ i < 0 := by omega
        go_wp2_with (go_at_call 33; with_reducible refine (HMK.out _ HX.out).mono ?_; rintro e wz ⟨rfl, rfl⟩)
        go_ret
        exact ⟨rfl, HB5.out.trans (HX.out.below HB5.out.size (fun b h => h.elim))⟩
      · go_upto_region 6 with (first
          | ((refine wpList_unguard (o := ⟨some 41, _, _, _, _, _⟩) (by rfl) ?_; with_reducible refine wpList_load_mid (op := ⟨some 41, _, _, _, _, _⟩) rfl 37 _ rfl (n0 + 1) 0 rfl (inoL n (.slice ea n.ents.length ec)) _ HRA.out Try.underlying37 rfl HSA.out ?_))
          | (go_at_call 29; with_reducible refine (HRR.out _ HX.out).mono ?_; rintro e wz ⟨rfl, hbz⟩; have HX := Lib.hid (HX.out.step (mod_of_below hbz) (fun _ h => h)); clear hbz; have HRA := Lib.hid ((HA0.out.mod HX.out (fun h => h)).at.range HNO.out.len); have c0 := (HA0.out.mod HX.out (fun h => h)).at.c0; rw [← HFO.out] at c0))
        go_wp2_with (go_at_call 33; with_reducible refine (HMK.out _ HX.out).mono ?_; rintro e wz ⟨rfl, rfl⟩)
        go_ret
        exact ⟨rfl, HB5.out.trans (HX.out.below HB5.out.size (fun b h => h.elim))⟩
      · have g3b : (fo != 2) = true := by simpa using g3
        clear g3
        go_upto_region 6 with (first
          | ((refine wpList_unguard (o := ⟨some 41, _, _, _, _, _⟩) (by rfl) ?_; with_reducible refine wpList_load_mid (op := ⟨some 41, _, _, _, _, _⟩) rfl 37 _ rfl (n0 + 1) 0 rfl (inoL n (.slice ea n.ents.length ec)) _ HRA.out Try.underlying37 rfl HSA.out ?_))
          | (go_at_call 29; with_reducible refine (HRR.out _ HX.out).mono ?_; rintro e wz ⟨rfl, hbz⟩; have HX := Lib.hid (HX.out.step (mod_of_below hbz) (fun _ h => h)); clear hbz; have HRA := Lib.hid ((HA0.out.mod HX.out (fun h => h)).at.range HNO.out.len); have c0 := (HA0.out.mod HX.out (fun h => h)).at.c0; rw [← HFO.out] at c0))
        go_wp2_with (go_at_call 33; with_reducible refine (HMK.out _ HX.out).mono ?_; rintro e wz ⟨rfl, rfl⟩)
        go_ret
        exact ⟨rfl, HB5.out.trans (HX.out.below HB5.out.size (fun b h => h.elim))⟩
    · obtain ⟨hii, hrp, hf1⟩ := LayBad2.not hbad
      have HRP := Lib.hid hrp
      have hbr : br = true := by rw [HBR.out]; exact rightB_true hrp
      have hfo1 : fo = 2 := by rw [HFO.out]; exact hf1
      subst hbr hfo1
      have g1 : ¬ i < 0 := by omega
      have g2 : ¬ 31 < i := by omega
      obtain ⟨q, hq⟩ : ∃ q, q = need2 n := ⟨_, rfl⟩
      have hq40 : q ≤ 40 := by rw [hq]; exact need2_le hrp
      have HND : Hid (∀ wx, Mod nob w5 wx → Calls Try.prog 40 #[.agg (inoL n (.slice ea n.ents.length ec)).toArray] wx fun e w' => e = .returned (.int .i64 (q : Nat)) ∧ Below wx.heap.size wx w') := fun wx hm => by
        rw [hq]
        exact ref_need2 HNO.out (HE.out.mod hm (fun _ _ _ h => h)) HRP.out
      have HNQ : Hid (∀ wx, Mod nob w5 wx → Calls Try.prog 42 #[.agg (inoL n (.slice ea n.ents.length ec)).toArray] wx fun e w' => e = .returned (.int .i64 (q : Nat)) ∧ Below wx.heap.size wx w') := fun wx hm => by
        rw [hq]
        exact need2_any HNO.out (HE.out.mod hm (fun _ _ _ h => h)) HRP.out
      have hfl : (freeF (bitOf a) 1 255).length = freeN S := by rw [S6_free, freeL_len, HSS.out, freeN_from]
      have HFL := Lib.hid hfl
      have h1 : e1 = if q ≤ freeN S then 0 else 7 := by rw [HE1.out]; unfold lay2E; rw [if_neg hbad, hq]
      have hT : T = if q ≤ freeN S then lay2S S i n else S := by rw [HTT.out]; unfold lay2T; rw [if_neg hbad, hq]
      have H1 := Lib.hid h1
      have HT := Lib.hid hT
      have HQQ := Lib.hid hq
      have hfn : freeN S ≤ 256 := freeTo_le S 256
      obtain ⟨F, hF⟩ : ∃ F, F = freeN S := ⟨_, rfl⟩
      rw [← hF] at hfn
      have HFF := Lib.hid hF
      have HII := Lib.hid hii
      clear hbad hrp hf1 hii hq hfl h1 hT hF HE1 HTT HBR
      go_upto_region 7 with (first
        | ((refine wpList_unguard (o := ⟨some 41, _, _, _, _, _⟩) (by rfl) ?_; with_reducible refine wpList_load_mid (op := ⟨some 41, _, _, _, _, _⟩) rfl 37 _ rfl (n0 + 1) 0 rfl (inoL n (.slice ea n.ents.length ec)) _ HRA.out Try.underlying37 rfl HSA.out ?_))
        | (go_at_call 29; with_reducible refine (HRR.out _ HX.out).mono ?_; rintro e wz ⟨rfl, hbz⟩; have HX := Lib.hid (HX.out.step (mod_of_below hbz) (fun _ h => h)); clear hbz; have HRA := Lib.hid ((HA0.out.mod HX.out (fun h => h)).at.range HNO.out.len); have c0 := (HA0.out.mod HX.out (fun h => h)).at.c0; rw [← HFO.out] at c0))
      have HR4z : Hid (wz.rangeAt n0 0 [Value.int .u64 (a 0), .int .u64 (a 1), .int .u64 (a 2), .int .u64 (a 3)]) := fun j v hj => HX.out.cell (HR4.out j v hj) (fun h => h)
      have hfr : ∀ (wx : World) (g : Nat), Bools wx g (bitOf a) → Calls Try.prog 34 #[.slice (some ⟨g, 0, none⟩) 256 256] wx fun e w' => ∃ v, e = .returned v ∧ HoldsN w' v (freeF (bitOf a) 1 255) ∧ Below wx.heap.size wx w' := fun wx g hb => free_ref hb
      have HFR := Lib.hid hfr
      clear hfr
      go_upto_region 8 with (first
        | (with_reducible refine wpList_load_mid (op := ⟨some 57, _, _, _, _, _⟩) rfl 42 _ rfl n0 0 rfl ([Value.int .u64 (a 0), .int .u64 (a 1), .int .u64 (a 2), .int .u64 (a 3)]) _ HR4z.out Try.underlying42 rfl HS4.out ?_)
        | (go_at_call 35; with_reducible refine (HBT.out _).mono ?_; rintro e wb ⟨gb, rfl, -, hbools, hbb⟩)
        | (go_at_call 34; with_reducible refine (HFR.out _ _ hbools).mono ?_; rintro e wf ⟨fv, rfl, hfv, hbf⟩))
      have HX := Lib.hid ((HX.out.step (mod_of_below hbb) (fun _ h => h)).step (mod_of_below hbf) (fun _ h => h))
      have HFV := Lib.hid hfv
      obtain ⟨fa, fc, rfl, f1, f2, -, -⟩ := hfv
      rw [HFL.out, ← HFF.out] at HFV f1 ⊢
      unfold maxLen at f2
      have HFM := Lib.hid HX.out
      have HND := Lib.hid (fun wx (hm : Mod nob wf wx) => HND.out wx (HFM.out.step hm (fun _ h => h)))
      have HNQ := Lib.hid (fun wx (hm : Mod nob wf wx) => HNQ.out wx (HFM.out.step hm (fun _ h => h)))
      have HA0 := Lib.hid (HA0.out.mod HFM.out (fun h => h))
      have HE := Lib.hid (HE.out.mod HFM.out (fun _ _ _ h => h))
      have HST := Lib.hid (HST.out.mod HFM.out (fun _ _ h => h))
      have HB5 : Hid (Below w.heap.size w wf) := HB5.out.trans (HFM.out.below HB5.out.size (fun b h => h.elim))
      have HX : Hid (Mod nob wf wf) := Mod.refl nob wf
      have HRA := Lib.hid (HA0.out.at.range HNO.out.len)
      clear hbools hbb hbf HR4z HR4 HFR HBT HFM HRR
      have hqi : (q : Int) ≤ 40 := by omega
      by_cases hroom : q ≤ F
      · have hT : T = lay2S S i n := by rw [HT.out, if_pos (by rw [← HFF.out]; exact hroom)]
        have h1 : e1 = 0 := by rw [H1.out, if_pos (by rw [← HFF.out]; exact hroom)]
        have hfree : need2 n ≤ freeN S := by rw [← HQQ.out, ← HFF.out]; exact hroom
        have hii := HII.out
        have hLI := lay2S_laid S i hii n hfree
        rw [← hT] at hLI
        have HLI := Lib.hid hLI
        have hxs : own2S S n = (freeF (bitOf a) 1 255).take q := by
          have := (tookN S _ hfree).free
          rw [S6_free, ← HSS.out, HQQ.out]
          exact this
        obtain ⟨xs, hxx⟩ : ∃ xs, xs = own2S S n := ⟨_, rfl⟩
        have hown : ∀ wx, Mod nob wf wx → HoldsN wx (.slice fa q fc) xs := fun wx hm => by
          rw [hxx, hxs]
          exact (HFV.out.mod hm (fun _ _ _ h => h)).take2 q (by rw [HFL.out, ← HFF.out]; exact hroom)
        have HOWN := Lib.hid hown
        have hword : ∀ j : Int, 820 ≤ j → j < 3128 → (word2At n (824 + i * 8) xs j).1 = T.get j ∧ ((word2At n (824 + i * 8) xs j).2 = false → T.get j = 0) := fun j g3 g4 => by
          have h5 : (word2At n (824 + i * 8) xs j).1 = T.get j := by
            rw [hxx, hT, HSS.out]
            exact lays2_word a i hii n (by rw [← HSS.out]; exact hfree) j g3 g4
          exact ⟨h5, fun h6 => by rw [← h5]; exact word2At_false _ _ _ _ h6⟩
        have HWORD := Lib.hid hword
        rw [← hxx] at HLI
        have hlq : xs.length = q := by rw [HLI.out.len, ← HQQ.out]
        have HLQ := Lib.hid hlq
        have hrdn : rd2 T i = some (n, xs) := rd2_laid hii HLI.out HRP.out HFO.out.symm HNO.out.len
        have HRDN := Lib.hid hrdn
        subst h1
        have hroomi : ¬ (F : Int) < (q : Int) := by omega
        have hroom2 : (q : Int) ≤ (fc : Int) := by omega
        have i2 : 0 ≤ i := hii.1
        have i3 : i < 32 := hii.2
        obtain ⟨at_, hat⟩ : ∃ at_, 824 + 8 * i = at_ := ⟨_, rfl⟩
        have hat2 : 824 + i * 8 = at_ := by omega
        have ha2 : 820 ≤ at_ ∧ at_ ≤ 1072 := by omega
        rw [hat2] at HWORD
        have HWD : Hid (∀ wx (j : Int), Mod nob wf wx → HoldsN wx (.slice fa q fc) xs → 0 ≤ j → j < 4000 → Calls Try.prog 41 #[.agg (inoL n (.slice ea n.ents.length ec)).toArray, .int .i64 at_, .slice fa q fc, .int .i64 j] wx fun e w' => e = .returned (.tuple #[.int .u64 (word2At n at_ xs j).1, .bool (word2At n at_ xs j).2]) ∧ Below wx.heap.size wx w') := fun wx j hm hv h0 h1 => ref_word2 HNO.out (HE.out.mod hm (fun _ _ _ h => h)) hv HRP.out HLI.out.len (fun b hb => (HLI.out.mem b hb).2) at_ ha2 j ⟨h0, h1⟩
        clear hT hfree hii hLI hxs hxx hown hword hlq hrdn hat2 ha2 H1 HT HFF HFL HII
        go_upto_region 14 with (first
          | (with_reducible refine wpList_load_mid (op := ⟨some 60, _, _, _, _, _⟩) rfl 37 _ rfl (n0 + 1) 0 rfl (inoL n (.slice ea n.ents.length ec)) _ HRA.out Try.underlying37 rfl HSA.out ?_)
          | (with_reducible refine wpList_load_mid (op := ⟨some 62, _, _, _, _, _⟩) rfl 37 _ rfl (n0 + 1) 0 rfl (inoL n (.slice ea n.ents.length ec)) _ HRA.out Try.underlying37 rfl HSA.out ?_)
          | (go_at_call 40; with_reducible refine (HND.out _ HX.out).mono ?_; rintro e wz ⟨rfl, hbz⟩; have HX := Lib.hid (HX.out.step (mod_of_below hbz) (fun _ h => h)); clear hbz; have HRA := Lib.hid ((HA0.out.mod HX.out (fun h => h)).at.range HNO.out.len))
          | (go_at_call 42; with_reducible refine (HNQ.out _ HX.out).mono ?_; rintro e wz ⟨rfl, hbz⟩; have HX := Lib.hid (HX.out.step (mod_of_below hbz) (fun _ h => h)); clear hbz; have HRA := Lib.hid ((HA0.out.mod HX.out (fun h => h)).at.range HNO.out.len)))
        have HWT := Lib.hid (sheet_words (HST.out.mod HX.out (fun _ _ h => h)))
        go_wp2_with fail
        refine HWT.out.mono ?_
        rintro e wC ⟨G, gc, rfl, ⟨gc1, gc2⟩, hcell, hbC⟩
        unfold maxLen at gc2
        have HXC : Hid (Mod nob wf wC) := HX.out.step (mod_of_below hbC) (fun _ h => h)
        have HCELL : Hid (∀ wx, Mod nob wC wx → ∀ j, j < 3128 → wx.cell? ⟨G, j, none⟩ = some (.int .u64 (T.get (j : Int)))) := fun wx hm j hj => hm.cell (hcell j hj) (fun h => h)
        clear hcell hbC HWT HRA HND HNQ
        go_wp2_with fail
        go_loopg [13] 2308 (fun gk iv wr => ∃ k : Nat, k + gk = 3128 ∧ 820 ≤ k ∧ iv = .int .i64 k ∧ Hid (Mod nob wC wr))
        case atStart => exact ⟨820, by omega, by omega, rfl, Mod.refl _ _⟩
        case round =>
          obtain ⟨k, hk, hk8, rfl, HW4⟩ := hrel
          by_cases hlt : k < 3128
          · have hki : (k : Int) < 3128 := by omega
            have hk0 : (820 : Int) ≤ (k : Int) := by omega
            have HM4 : Hid (Mod nob wf wr) := HXC.out.step HW4.out (fun _ h => h)
            have HRA := Lib.hid ((HA0.out.mod HM4.out (fun h => h)).at.range HNO.out.len)
            have hw := HWORD.out (k : Int) (by omega) (by omega)
            have HWQ := Lib.hid (HWD.out wr (k : Int) HM4.out (HOWN.out wr HM4.out) (by omega) (by omega))
            obtain ⟨bb, hbb⟩ : ∃ bb, bb = (word2At n at_ xs (k : Int)).2 := ⟨_, rfl⟩
            obtain ⟨y, hyy⟩ : ∃ y, y = T.get (k : Int) := ⟨_, rfl⟩
            rw [hw.1, ← hbb, ← hyy] at HWQ
            have hz := hw.2
            rw [← hbb, ← hyy] at hz
            have HYY := Lib.hid hyy
            clear hw hbb hyy
            cases bb with
            | true =>
              clear hz
              go_upto_region 19 with (first
                | (with_reducible refine wpList_load_mid (op := ⟨some 87, _, _, _, _, _⟩) rfl 37 _ rfl (n0 + 1) 0 rfl (inoL n (.slice ea n.ents.length ec)) _ HRA.out Try.underlying37 rfl HSA.out ?_)
                | (go_at_call 41; with_reducible refine HWQ.out.mono ?_; rintro e wz ⟨rfl, hbz⟩))
              have HW5 : Hid (Mod nob wC wz) := HW4.out.step (mod_of_below hbz) (fun _ h => h)
              have d1 := HCELL.out wz HW5.out k hlt
              rw [← HYY.out] at d1
              clear hbz
              go_wp2_with fail
              go_roundg (gk - 1)
              case measure => omega
              case rel => exact ⟨k + 1, by omega, by omega, by go_num, HW5⟩
            | false =>
              have hy0 : y = 0 := hz rfl
              subst hy0
              clear hz
              go_upto_region 19 with (first
                | (with_reducible refine wpList_load_mid (op := ⟨some 87, _, _, _, _, _⟩) rfl 37 _ rfl (n0 + 1) 0 rfl (inoL n (.slice ea n.ents.length ec)) _ HRA.out Try.underlying37 rfl HSA.out ?_)
                | (go_at_call 41; with_reducible refine HWQ.out.mono ?_; rintro e wz ⟨rfl, hbz⟩))
              have HW5 : Hid (Mod nob wC wz) := HW4.out.step (mod_of_below hbz) (fun _ h => h)
              have d1 := HCELL.out wz HW5.out k hlt
              rw [← HYY.out] at d1
              clear hbz
              go_wp2_with fail
              go_roundg (gk - 1)
              case measure => omega
              case rel => exact ⟨k + 1, by omega, by omega, by go_num, HW5⟩
          · have hge : ¬ (k : Int) < 3128 := by omega
            have HM4 : Hid (Mod nob wf wr) := HXC.out.step HW4.out (fun _ h => h)
            have hrd := rd2_any (HST.out.mod HM4.out (fun _ _ h => h)) i
            rw [HRDN.out] at hrd
            have HRD := Lib.hid hrd
            clear hrd
            go_wp2_with fail
            refine HRD.out.mono ?_
            rintro e w7 ⟨hb7, mv, xv, rfl, hmv, hxv, -, -⟩
            have HB7 := Lib.hid hb7
            have HMV := Lib.hid hmv
            have HXV := Lib.hid hxv
            obtain ⟨ma, mc, rfl, -, -, -, -⟩ := hmv
            obtain ⟨xa, xc, rfl, x1, x2, -, -⟩ := hxv
            unfold maxLen at x2
            clear hb7 HRD
            have hszA : (inoL n (.slice ma n.ents.length mc)).toArray.size = 18 := by simp [inoL_len HNO.out.len]
            have HTH : Hid ((w7.alloc (.cells z18 37)).there w7.heap.size 0 (inoL n (.slice ma n.ents.length mc)).toArray.size) := by
              unfold Hid; rw [hszA]; exact ino_there w7 _
            have HISZ : Hid ((Try.prog.info? 37).map (·.size) = some (inoL n (.slice ma n.ents.length mc)).toArray.size) := by
              unfold Hid; rw [hszA]; exact Try.info18
            have HONE : Hid ((inoL n (.slice ma n.ents.length mc)).toArray.all (·.oneCell') = true) := all_oneCell_toArray (inoL_one rfl)
            have HROW := Lib.hid (ino_row w7 37 (inoL n (.slice ma n.ents.length mc)) (inoL_len HNO.out.len _))
            clear hszA
            go_upto_region 22 with (with_reducible refine wpList_store_mid (op := ⟨none, _, _, _, _, _⟩) rfl 37 _ _ rfl w7.heap.size 0 (inoL n (.slice ma n.ents.length mc)).toArray rfl rfl HTH.out HISZ.out HONE.out ?_)
            have HIX : Hid (InoB ((w7.alloc (.cells z18 37)).setCells w7.heap.size 0 (inoL n (.slice ma n.ents.length mc))) w7.heap.size n (.slice ma n.ents.length mc)) := ⟨HROW.out.1, HNO.out.len⟩
            have HMX : Hid (Mod nob w7 ((w7.alloc (.cells z18 37)).setCells w7.heap.size 0 (inoL n (.slice ma n.ents.length mc)))) := mod_of_below HROW.out.2
            clear HROW HTH HISZ HONE
            generalize (w7.alloc (.cells z18 37)).setCells w7.heap.size 0 (inoL n (.slice ma n.ents.length mc)) = wB at *
            obtain ⟨X, hX⟩ : ∃ X, X = w7.heap.size := ⟨_, rfl⟩
            rw [← hX] at HIX ⊢
            clear hX
            have HM7 : Hid (Mod nob wf wB) := HM4.out.step ((mod_of_below HB7.out).step HMX.out (fun _ h => h)) (fun _ h => h)
            have HEB : Hid (HoldsE wB (.slice ma n.ents.length mc) n.ents) := HMV.out.mod HMX.out (fun _ _ _ h => h)
            have HNB : Hid (HoldsN wB (.slice xa xs.length xc) xs) := HXV.out.mod HMX.out (fun _ _ _ h => h)
            have HSM : Hid ((Try.prog.info? 37).map (·.size) = some (inoL n (.slice ma n.ents.length mc)).length) := by
              unfold Hid; rw [inoL_len HNO.out.len]; exact Try.info18
            have HSAME : Hid (Calls Try.prog 26 #[.agg (inoL n (.slice ma n.ents.length mc)).toArray, .agg (inoL n (.slice ea n.ents.length ec)).toArray] wB fun e w' => e = .returned (.bool true) ∧ Below wB.heap.size wB w') := same6 HNO.out HEB.out (HE.out.mod HM7.out (fun _ _ _ h => h))
            have HQX := Lib.hid (HIX.out.at.range HNO.out.len)
            have HRA := Lib.hid ((HA0.out.mod HM7.out (fun h => h)).at.range HNO.out.len)
            have hxl : xs.length = q := HLQ.out
            rw [hxl] at HNB x1 ⊢
            go_upto_region 24 with (first
              | ((refine wpList_unguard (o := ⟨some 124, _, _, _, _, _⟩) (by rfl) ?_; with_reducible refine wpList_load_mid (op := ⟨some 124, _, _, _, _, _⟩) rfl 37 _ rfl (X) 0 rfl (inoL n (.slice ma n.ents.length mc)) _ HQX.out Try.underlying37 rfl HSM.out ?_))
              | ((refine wpList_unguard (o := ⟨some 125, _, _, _, _, _⟩) (by rfl) ?_; with_reducible refine wpList_load_mid (op := ⟨some 125, _, _, _, _, _⟩) rfl 37 _ rfl (n0 + 1) 0 rfl (inoL n (.slice ea n.ents.length ec)) _ HRA.out Try.underlying37 rfl HSA.out ?_))
              | (go_at_call 26; with_reducible refine HSAME.out.mono ?_; rintro e wy ⟨rfl, hby⟩))
            have HMY : Hid (Mod nob wB wy) := mod_of_below hby
            clear hby hxl HSAME HQX HRA
            go_wp2_with fail
            go_loopg [19] q (fun gk iv wr => ∃ k : Nat, k + gk = q ∧ iv = .int .i64 k ∧ Hid (Mod nob wB wr))
            case atStart => exact ⟨0, by omega, rfl, HMY⟩
            case round =>
              obtain ⟨k, hk, rfl, HW⟩ := hrel
              by_cases hlt6 : k < q
              · have hki : (k : Int) < (q : Int) := by omega
                have hlen := HLQ.out
                obtain ⟨ao', c', e, -, -, -, hcx⟩ := HNB.out.mod HW.out (fun _ _ _ h => h)
                rw [hlen] at e
                simp only [Value.slice.injEq] at e
                obtain ⟨rfl, -, rfl⟩ := e
                obtain ⟨g1, o1, rfl, d1⟩ := hcx k (by omega)
                clear hcx
                obtain ⟨ao', c', e, -, -, -, hcx⟩ := (HOWN.out wB HM7.out).mod HW.out (fun _ _ _ h => h)
                rw [hlen] at e
                simp only [Value.slice.injEq] at e
                obtain ⟨rfl, -, rfl⟩ := e
                obtain ⟨g2, o2, rfl, d2⟩ := hcx k (by omega)
                clear hcx hlen
                obtain ⟨x, hxx⟩ : ∃ x, x = xs.getD k 0 := ⟨_, rfl⟩
                rw [← hxx] at d1 d2
                clear hxx
                go_wp2_with fail
                go_quiet (fail)
                go_wp2_with fail
                go_roundg (gk - 1)
                case measure => omega
                case rel => exact ⟨k + 1, by omega, by go_num, HW.out.drewN _⟩
              · have hge6 : ¬ (k : Int) < (q : Int) := by omega
                go_wp2_with fail
                go_ret
                exact ⟨rfl, HB5.out.trans ((HM7.out.step HW.out (fun _ h => h)).below HB5.out.size (fun b h => h.elim))⟩
      · have hT : T = S := by rw [HT.out, if_neg (by rw [← HFF.out]; exact hroom)]
        have h1 : e1 = 7 := by rw [H1.out, if_neg (by rw [← HFF.out]; exact hroom)]
        have HMK : Hid (∀ wx, Mod nob wf wx → Calls Try.prog 33 #[.pointer (some ⟨p, 0, none⟩)] wx fun e w' => e = .returned (.int .i64 0) ∧ wx = w') := fun wx hm => by
          have := sheet_mark (HST.out.mod hm (fun _ _ h => h))
          rw [hT, HWAS.out] at this
          exact this
        subst h1
        have hroomi : (F : Int) < (q : Int) := by omega
        clear hT H1 HT
        go_upto_region 12 with (first
          | (with_reducible refine wpList_load_mid (op := ⟨some 60, _, _, _, _, _⟩) rfl 37 _ rfl (n0 + 1) 0 rfl (inoL n (.slice ea n.ents.length ec)) _ HRA.out Try.underlying37 rfl HSA.out ?_)
          | (with_reducible refine wpList_load_mid (op := ⟨some 62, _, _, _, _, _⟩) rfl 37 _ rfl (n0 + 1) 0 rfl (inoL n (.slice ea n.ents.length ec)) _ HRA.out Try.underlying37 rfl HSA.out ?_)
          | (go_at_call 40; with_reducible refine (HND.out _ HX.out).mono ?_; rintro e wz ⟨rfl, hbz⟩; have HX := Lib.hid (HX.out.step (mod_of_below hbz) (fun _ h => h)); clear hbz; have HRA := Lib.hid ((HA0.out.mod HX.out (fun h => h)).at.range HNO.out.len))
          | (go_at_call 42; with_reducible refine (HNQ.out _ HX.out).mono ?_; rintro e wz ⟨rfl, hbz⟩; have HX := Lib.hid (HX.out.step (mod_of_below hbz) (fun _ h => h)); clear hbz; have HRA := Lib.hid ((HA0.out.mod HX.out (fun h => h)).at.range HNO.out.len)))
        go_wp2_with (go_at_call 33; with_reducible refine (HMK.out _ HX.out).mono ?_; rintro e wz ⟨rfl, rfl⟩)
        go_ret
        exact ⟨rfl, HB5.out.trans (HX.out.below HB5.out.size (fun b h => h.elim))⟩
  | false =>
    go_upto_if 26 with (first
      | ((refine wpList_unguard (o := ⟨some 23, _, _, _, _, _⟩) (by rfl) ?_; with_reducible refine wpList_load_mid (op := ⟨some 23, _, _, _, _, _⟩) rfl 37 _ rfl (n0 + 1) 0 rfl (inoL n (.slice ea n.ents.length ec)) _ HRA.out Try.underlying37 rfl HSA.out ?_))
      | (go_at_call 22; with_reducible refine (HFA.out _ HX.out).mono ?_; rintro e wz ⟨rfl, hbz⟩; have HX := Lib.hid (HX.out.step (mod_of_below hbz) (fun _ h => h)); clear hbz; have HRA := Lib.hid ((HA0.out.mod HX.out (fun h => h)).at.range HNO.out.len)))
    go_wp2_with fail
    refine (HAW.out _).mono ?_
    rintro e we ⟨rfl, hbz⟩
    have HX := Lib.hid (HX.out.step (mod_of_below hbz) (fun _ h => h))
    clear hbz
    go_wp2_with fail
    go_ret
    exact ⟨rfl, HBEL.out.trans (HX.out.below (by have := HZ.out; have := HN0.out; omega) (fun b h => h.elim))⟩
end Go.Proofs.Ytfpnmphmngdkdaa
