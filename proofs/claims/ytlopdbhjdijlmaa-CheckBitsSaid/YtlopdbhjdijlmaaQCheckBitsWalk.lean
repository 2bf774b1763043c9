/-
  The law CheckBits: the walk. No condition.
-/
import Derived.Test.YtlopdbhjdijlmaaQCount10
import Derived.Test.YtlopdbhjdijlmaaQBlocks10

namespace Go.Proofs.Ytlopdbhjdijlmaa
open Go.ChangeShapes Go.WideShapes Go.ChangeAt Go.RowKit
set_option linter.unusedSimpArgs false
set_option linter.unusedVariables false

set_option maxRecDepth 20000 in
set_option maxHeartbeats 4000000 in
theorem law_bits {w : World} {lv : Value} {l : List InV} (hl : HoldsV w lv l) (b : Nat) (hb : b < 256) :
    Calls Try.prog 6 #[lv, .int .u8 (b : Nat)] w fun e w' => e = .returned (.bool true) ∧ Below w.heap.size w w' := by
  have HAW : Hid (∀ wx, Calls Try.prog 33 #[] wx fun e w' => e = .returned (.bool true) ∧ Below wx.heap.size wx w') := fun wx => awake10 wx
  have HL := Lib.hid hl
  have HFW : Hid (∀ wx, Mod nob w wx → Calls Try.prog 34 #[lv] wx fun e w' => TellsB e ∧ Below wx.heap.size wx w') := fun wx hm => few10 (HL.out.old hm (fun _ h => h.elim))
  have HMD : Hid (∀ wx, Mod nob w wx → Calls Try.prog 35 #[lv, .bool true] wx fun e w' => ∃ (p : Nat) (D : Nat → Prop) (S : Sh), e = .returned (.pointer (some ⟨p, 0, none⟩)) ∧ SheetAt w' p D S ∧ S.was.length ≤ 200000 ∧ (∀ b, D b → wx.heap.size ≤ b) ∧ Below wx.heap.size wx w') := fun wx hm => made10 (HL.out.old hm (fun _ h => h.elim)) true
  obtain ⟨ao, c, rfl, hlc, hcm, -⟩ := hl
  obtain ⟨m, hm⟩ : ∃ m, m = l.length := ⟨_, rfl⟩
  rw [← hm] at HL HFW HMD hlc ⊢
  clear hm HL
  have hb0 : (0 : Int) ≤ (b : Int) := Int.natCast_nonneg _
  have hb2 : (b : Int) < 256 := by omega
  go_enter Try.func6, Try.ntmps6
  go_upto_if 17 with (first
    | (go_at_call 33; (with_reducible refine (HAW.out _).mono ?_); (rintro e w1 ⟨rfl, hb1⟩; have HX1 : Hid (Mod nob w w1) := mod_of_below hb1; clear hb1))
    | (go_at_call 34; (with_reducible refine (HFW.out _ HX1.out).mono ?_); (rintro e w2 ⟨⟨bo, rfl⟩, hb2⟩)))
  have HX2 : Hid (Mod nob w w2) := HX1.out.step (mod_of_below hb2) (fun _ h => h)
  clear hb2 HX1 HFW
  cases bo with
  | false =>
    go_wp2_with fail
    refine (HAW.out _).mono ?_
    rintro e w3 ⟨rfl, hb3⟩
    have HX3 : Hid (Mod nob w w3) := HX2.out.step (mod_of_below hb3) (fun _ h => h)
    clear hb3
    go_wp2_with fail
    go_ret
    exact ⟨rfl, nob_mod_below HX3.out⟩
  | true =>
    have HMD2 := Lib.hid (HMD.out _ HX2.out)
    clear HMD
    go_upto_region 4 with (go_at_call 35; (with_reducible refine HMD2.out.mono ?_); (rintro e w5 ⟨p, D, S, rfl, hs, hlen, hnew, hb5⟩))
    have HX5 : Hid (Mod nob w w5) := HX2.out.step (mod_of_below hb5) (fun _ h => h)
    have HDN : Hid (∀ b, D b → w.heap.size ≤ b) := fun b hb => Nat.le_trans HX2.out.size (hnew b hb)
    have HS := Lib.hid hs
    have HSN := Lib.hid (sound10 hs)
    clear hs hnew hb5 HMD2 HX2
    go_upto_region 5 with (go_at_call 36; (with_reducible refine HSN.out.mono ?_); (rintro e w6 ⟨⟨k, ok, rfl, hsd⟩, hb6⟩))
    have HX6 : Hid (Mod nob w w6) := HX5.out.step (mod_of_below hb6) (fun _ h => h)
    have HS6 : Hid (SheetAt w6 p D S) := HS.out.mod (mod_of_below hb6) (fun _ _ h => h)
    have HSD := Lib.hid hsd
    clear hb6 hsd HSN HS HX5
    cases ok with
    | false =>
      go_wp2_with fail
      go_ret
      exact ⟨rfl, nob_mod_below HX6.out⟩
    | true =>
      have hsok := HS6.out.ok
      obtain ⟨hv1, hv2⟩ := sev_flip hsok b hb (snd_ok HSD.out)
      have HV1 := Lib.hid hv1
      have HV2 := Lib.hid hv2
      have HST : Hid (S.put (816 + (b : Int) / 64) (flipW S b : Nat) = flipS S b) := by
        unfold Hid flipS
        congr 1
      have hok := hsok.now (816 + b / 64)
      have HG : Hid (S.get (816 + (b : Int) / 64) = ((S.now (816 + b / 64)).toNat : Nat)) := by
        have e : (816 + (b : Int) / 64) = ((816 + b / 64 : Nat) : Int) := by omega
        unfold Hid Sh.get
        rw [e, if_pos (by omega)]
        simp only [Int.toNat_natCast]
        omega
      have hfl : flipW S b = (S.now (816 + b / 64)).toNat ^^^ 2 ^ (b % 64) := rfl
      have hfw := flipW_lt hsok b
      have hlt : (S.now (816 + b / 64)).toNat < 18446744073709551616 := by omega
      have HFF := Lib.hid (flip_form (S.now (816 + b / 64)).toNat (b % 64) hlt (Nat.mod_lt _ (by decide)))
      rw [← hfl] at HFF
      generalize (S.now (816 + b / 64)).toNat = x at HG HFF hlt hfl
      generalize flipW S b = fw at HST HFF hfw hfl
      have HPUT := Lib.hid (sheet_put HS6.out (by omega) (816 + (b : Int) / 64) fw (by omega) (by omega))
      rw [HST.out] at HPUT
      obtain ⟨q, hq⟩ : ∃ q, q = b % 64 := ⟨_, rfl⟩
      rw [← hq] at HFF
      have htm : (b : Int).tmod 64 = (q : Int) := by rw [Int.tmod_eq_emod_of_nonneg (by omega)]; omega
      have hq64 : q < 64 := by omega
      obtain ⟨T, hT⟩ : ∃ T, T = flipS S b := ⟨_, rfl⟩
      rw [← hT] at HPUT HV1 HV2
      clear hsok hv1 hv2 hok hlt hfl hfw hq hT HST HSD hlen
      go_upto_region 8 with (fail)
      go_upto_region 9 with (first | (go_at_call 37; refine (sheet_get HS6.out _).mono ?_; rintro e w' ⟨rfl, rfl⟩; rw [HG.out]) | (go_at_call 31; rw [HFF.out]; refine HPUT.out.mono ?_; rintro e w7 ⟨rfl, hS7, hm7⟩; have HS7 := Lib.hid hS7; have HM7 := Lib.hid hm7; clear hS7 hm7))
      have HSN := Lib.hid (sound10 HS7.out)
      have HX7 : Hid (Mod nob w w7) := HX6.out.trans (HM7.out.mono (fun b hb e => .inr ⟨HDN.out b e, hb⟩))
      clear HS7 HM7 HX6
      go_upto_region 10 with (go_at_call 36; (with_reducible refine HSN.out.mono ?_); (rintro e w8 ⟨⟨k2, ok2, rfl, hsd2⟩, hb8⟩))
      have HX8 : Hid (Mod nob w w8) := HX7.out.step (mod_of_below hb8) (fun _ h => h)
      obtain ⟨rfl, rfl⟩ := snd_six hsd2 HV1.out HV2.out
      clear hb8 hsd2
      go_wp2_with fail
      go_ret
      exact ⟨rfl, nob_mod_below HX8.out⟩
end Go.Proofs.Ytlopdbhjdijlmaa
