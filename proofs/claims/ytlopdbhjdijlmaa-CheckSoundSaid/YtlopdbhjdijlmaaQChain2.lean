/-
  fmt2.chain: a contract. No condition but the sheet.
-/
import Derived.Test.YtlopdbhjdijlmaaQRun2
import Derived.Test.YtlopdbhjdijlmaaQRead2
import Derived.Deep.CutBlock

namespace Go.Proofs.Ytlopdbhjdijlmaa
open Go.ChangeShapes Go.WideShapes Go.ChangeAt Go.RowKit
set_option linter.unusedSimpArgs false
set_option linter.unusedVariables false

/-- A block's entries, behind others. -/
def entsC (S : Sh) (b : Nat) : Nat → Nat → List En → Option (List En)
  | 0, _, out => some out
  | f + 1, k, out => if S.get (1080 + (b : Int) * 8 + 1 + 2 * (k : Int)) = 0 then some out
    else if isName (S.get (1080 + (b : Int) * 8 + 1 + 2 * (k : Int))).toNat = true ∧ S.get (1080 + (b : Int) * 8 + 2 + 2 * (k : Int)) < 32 then entsC S b f (k + 1) (out ++ [⟨wtext (S.get (1080 + (b : Int) * 8 + 1 + 2 * (k : Int))).toNat, S.get (1080 + (b : Int) * 8 + 2 + 2 * (k : Int))⟩]) else none
def chainC (S : Sh) : Nat → Nat → List En → List Nat → Option (List En × List Nat)
  | 0, _, _, _ => none
  | f + 1, b, out, own => if b = 0 then some (out, own) else if 24 < own.length then none else (entsC S b 3 0 out).bind fun out2 => chainC S f (numI (S.get (1080 + (b : Int) * 8))) out2 (own ++ [b])
def chain2 (S : Sh) (b : Nat) : Option (List En × List Nat) := chainC S 26 b [] []

theorem entsC_len (S : Sh) (b : Nat) : ∀ (f k : Nat) (out out2 : List En), entsC S b f k out = some out2 → out2.length ≤ out.length + f := by
  intro f
  induction f with
  | zero => intro k out out2 h; simp only [entsC, Option.some.injEq] at h; rw [h]; omega
  | succ f ih =>
    intro k out out2 h
    simp only [entsC] at h
    split at h
    · simp only [Option.some.injEq] at h; rw [h]; omega
    · split at h
      · have := ih _ _ _ h
        rw [List.length_append, List.length_singleton] at this
        omega
      · cases h

def ChainPost (w : World) (r : Option (List En × List Nat)) (e : Ending) (w' : World) : Prop :=
  Below w.heap.size w w' ∧ match r with
  | none => e = .returned (.tuple #[.slice none 0 0, .slice none 0 0, .bool false])
  | some (out, own) => ∃ ev bv, e = .returned (.tuple #[ev, bv, .bool true]) ∧ NamesR w w' ev bv out own

set_option maxRecDepth 20000 in
set_option maxHeartbeats 8000000 in
theorem chain2_any {w : World} {p : Nat} {D : Nat → Prop} {S : Sh} (h : SheetAt w p D S) (b0 : Nat) (hb0 : b0 < 256) :
    Calls Try.prog 124 #[.pointer (some ⟨p, 0, none⟩), .int .i64 (b0 : Nat)] w (ChainPost w (chain2 S b0)) := by
  obtain ⟨i0, hi0, hz0, hz1, hz2⟩ := info_parts infoInt
  obtain ⟨i1, hi1, hy0, hy1, hy2⟩ := info_parts Try.infoEntry
  have HG : Hid (∀ (wx : World), Mod nob w wx → ∀ i : Int, Calls Try.prog 37 #[.pointer (some ⟨p, 0, none⟩), .int .i64 i] wx fun e w' => e = .returned (.int .u64 (S.get i)) ∧ wx = w') := fun wx hm i => sheet_get (h.mod hm (fun _ _ h => h)) i
  have HOK := Lib.hid h.ok
  have HC0 : Hid (chain2 S b0 = chainC S 26 b0 [] []) := rfl
  clear h
  go_enter Try.func124, Try.ntmps124
  go_wp2_with fail
  go_loopg [1, 7, 8, 9, 10, 11, 12, 13] 26 (fun gk bv ev ov _ _ _ _ _ wr => ∃ (b : Nat) (out : List En) (own : List Nat), gk + own.length = 26 ∧ own.length ≤ 25 ∧ bv = .int .i64 b ∧ b < 256 ∧ Hid (chain2 S b0 = chainC S gk b out own) ∧ Hid (NamesR w wr ev ov out own) ∧ out.length ≤ 3 * own.length)
  case atStart => exact ⟨b0, [], [], by simp, by simp, rfl, hb0, HC0.out, NamesR.start w, by simp⟩
  case round =>
    obtain ⟨b, out, own, hgk, hown25, rfl, hb, HC, HNR, hol⟩ := hrel
    obtain ⟨f, rfl⟩ : ∃ f, gk = f + 1 := ⟨gk - 1, by omega⟩
    have hch : chainC S (f + 1) b out own = if b = 0 then some (out, own) else if 24 < own.length then none else (entsC S b 3 0 out).bind fun out2 => chainC S f (numI (S.get (1080 + (b : Int) * 8))) out2 (own ++ [b]) := rfl
    have hbel := HNR.out.bel
    have HBE := Lib.hid hbel
    by_cases hb0' : b = 0
    · have hr : chain2 S b0 = some (out, own) := by rw [HC.out, hch, if_pos hb0']
      have HR := Lib.hid hr
      subst hb0'
      clear hch hr hbel
      go_wp2_with fail
      refine bodyPost_ret (v := .tuple #[_, _, .bool true]) (by simp [results, Try.results124, go_sem]; exact ⟨rfl, rfl⟩) rfl ?_
      unfold ChainPost
      rw [HR.out]
      exact ⟨HBE.out, _, _, rfl, HNR.out⟩
    · have hbb : ((b : Int) != 0) = true := by simp; omega
      obtain ⟨oa, oc, rfl, o1, o2, -⟩ := own_shape HNR.out.o10
      obtain ⟨va, vc, rfl, v1, v2, -⟩ := own_shape HNR.out.o9
      obtain ⟨no, hno⟩ : ∃ no, no = own.length := ⟨_, rfl⟩
      obtain ⟨ne, hne⟩ : ∃ ne, ne = out.length := ⟨_, rfl⟩
      rw [← hno] at o1 hgk hown25 hol hch HNR ⊢
      rw [← hne] at v1 hol HNR ⊢
      unfold maxLen at o2 v2
      have HNO := Lib.hid hno
      have HNE := Lib.hid hne
      clear hno hne
      by_cases h24 : 24 < no
      · have hr : chain2 S b0 = none := by rw [HC.out, hch, if_neg hb0', if_pos h24]
        have HR := Lib.hid hr
        have h24i : (24 : Int) < (no : Int) := by omega
        clear hch hr hbel hb0'
        go_wp2_with fail
        refine bodyPost_ret (v := .tuple #[.slice none 0 0, .slice none 0 0, .bool false]) (by simp [results, Try.results124, go_sem]) rfl ?_
        unfold ChainPost
        rw [HR.out]
        exact ⟨HBE.out, rfl⟩
      · have h24i : ¬ (24 : Int) < (no : Int) := by omega
        rw [if_neg hb0', if_neg h24] at hch
        have HCH : Hid (chain2 S b0 = (entsC S b 3 0 out).bind fun out2 => chainC S f (numI (S.get (1080 + (b : Int) * 8))) out2 (own ++ [b])) := by unfold Hid; rw [HC.out, hch]
        have hb256 : (b : Int) < 256 := by omega
        have HBL : Hid (∀ wx, Calls Try.prog 105 #[.int .i64 (b : Int)] wx fun e w' => e = .returned (.int .i64 (1080 + (b : Int) * 8)) ∧ wx = w') := by
          intro wx
          have := block_any (b : Int) wx
          rw [if_neg (by omega)] at this
          exact this
        have HO10 : Hid (wr.ownsRow w.heap.size 3 1 (.slice oa no oc) no (nums own)) := by
          have := HNR.out.o10
          rw [← HNO.out] at this
          exact this
        have hbs := hbel.size
        clear hch hb0' hbel
        go_wp2_with (at_builtin; refine wpList_append_own_at _ rfl (.tmp 19) (.tmp 21) 56 rfl w.heap.size 3 i0 (.int .i64 0) 1 8 Try.underlying56 hi0 hz0 hz1 hz2 rfl (by decide) _ no (nums own) rfl (HO10.out.alloc _) ⟨wr.heap.size, 0, none⟩ 1 1 [.int .i64 (b : Int)] rfl rfl (cells_new _ _ _) (by simp [Value.oneCell']) (by unfold maxLen; omega) (by omega) (by simp; omega) ?_)
        intro v' w3 hown hgr _ hat
        rw [HNO.out] at hown
        have HP3 := Lib.hid (HNR.out.pushN hown hgr (by simpa using hat))
        obtain ⟨oa2, oc2, rfl, o1', o2', -⟩ := own_shape HP3.out.o10
        have hgk' := hgk
        clear hown hgr hat HO10 HNR
        obtain ⟨N2, hN2⟩ : ∃ N2, N2 = (own ++ [b]).length := ⟨_, rfl⟩
        rw [← hN2] at HP3 o1' ⊢
        have hN26 : N2 ≤ 26 := by rw [hN2, List.length_append, List.length_singleton]; have := HNO.out; omega
        have HN2 : Hid (N2 = no + 1) := by unfold Hid; rw [hN2, List.length_append, List.length_singleton, ← HNO.out]
        unfold maxLen at o2'
        have HNONE : Hid (entsC S b 3 0 out = none → chain2 S b0 = none) := fun e => by rw [HCH.out, e]; rfl
        clear hN2 HBE
        go_upto_block 2 with (fail)
        go_cut [7, 9, 10, 11, 12, 13, 23, 24, 25, 26, 27, 28, 29, 30, 31, 32, 33, 34, 35, 36, 37, 38, 39, 40, 41, 42, 43, 44, 45, 46, 47, 48, 49, 50, 51, 52, 53, 54, 55, 56, 57, 58, 59, 60, 61, 62] (fun v7 _ _ _ _ _ _ _ _ _ _ _ _ _ _ _ _ _ _ _ _ _ _ _ _ _ _ _ _ _ _ _ _ _ _ _ _ _ _ _ _ _ _ _ _ _ wc => ∃ (ev : Value) (out2 : List En), ev = v7 ∧ Hid (entsC S b 3 0 out = some out2) ∧ Hid (NamesR w wc ev (.slice oa2 N2 oc2) out2 (own ++ [b])))
        case first =>
          go_wp2_with fail
          go_loopg [7, 9, 10, 11, 12, 13, 23] 3 (fun gk ev _ _ _ _ _ iv wx => ∃ (k : Nat) (out1 : List En), k + gk = 3 ∧ iv = .int .i64 k ∧ Hid (entsC S b 3 0 out = entsC S b gk k out1) ∧ Hid (NamesR w wx ev (.slice oa2 N2 oc2) out1 (own ++ [b])) ∧ out1.length ≤ ne + k)
          case atStart => exact ⟨0, out, by omega, rfl, rfl, HP3.out, by have := HNE.out; omega⟩
          case round =>
            obtain ⟨k, out1, hk, rfl, HEN, HNR, hol1⟩ := hrel
            have HBE := Lib.hid HNR.out.bel
            have HMW : Hid (Mod nob w wr) := mod_of_below HNR.out.bel
            obtain ⟨va1, vc1, rfl, w1, w2, -⟩ := own_shape HNR.out.o9
            unfold maxLen at w2
            obtain ⟨n1, hn1⟩ : ∃ n1, n1 = out1.length := ⟨_, rfl⟩
            rw [← hn1] at w1 HNR hol1 ⊢
            have HN1 := Lib.hid hn1
            clear hn1
            by_cases hlt : k < 3
            · have hki : (k : Int) < 3 := by omega
              have hk0 : (0 : Int) ≤ (k : Int) := Int.natCast_nonneg _
              obtain ⟨f2, rfl⟩ : ∃ f2, gk = f2 + 1 := ⟨gk - 1, by omega⟩
              have hst : entsC S b (f2 + 1) k out1 = if S.get (1080 + (b : Int) * 8 + 1 + 2 * (k : Int)) = 0 then some out1
                else if isName (S.get (1080 + (b : Int) * 8 + 1 + 2 * (k : Int))).toNat = true ∧ S.get (1080 + (b : Int) * 8 + 2 + 2 * (k : Int)) < 32 then entsC S b f2 (k + 1) (out1 ++ [⟨wtext (S.get (1080 + (b : Int) * 8 + 1 + 2 * (k : Int))).toNat, S.get (1080 + (b : Int) * 8 + 2 + 2 * (k : Int))⟩]) else none := rfl
              have hxr := HOK.out.get (1080 + (b : Int) * 8 + 1 + 2 * (k : Int))
              have hyr := HOK.out.get (1080 + (b : Int) * 8 + 2 + 2 * (k : Int))
              obtain ⟨xn, hxn⟩ := Int.eq_ofNat_of_zero_le hxr.1
              have HG1 := Lib.hid (HG.out wr HMW.out (1080 + (b : Int) * 8 + 1 + 2 * (k : Int)))
              have HG2 : Hid (∀ wx, Mod nob w wx → Calls Try.prog 37 #[.pointer (some ⟨p, 0, none⟩), .int .i64 (1080 + (b : Int) * 8 + 2 + 2 * (k : Int))] wx fun e w' => e = .returned (.int .u64 (S.get (1080 + (b : Int) * 8 + 2 + 2 * (k : Int)))) ∧ wx = w') := fun wx hm => HG.out wx hm _
              obtain ⟨y, hy⟩ : ∃ y, y = S.get (1080 + (b : Int) * 8 + 2 + 2 * (k : Int)) := ⟨_, rfl⟩
              rw [← hy] at HG2 hyr hst
              rw [hxn] at HG1 hxr hst
              rw [Int.toNat_natCast] at hst
              have HST := Lib.hid hst
              obtain ⟨y0, y1⟩ := hyr
              have hxn64 : xn < 18446744073709551616 := by omega
              clear hst hxr hxn hy
              by_cases hx0 : xn = 0
              · have hfin : entsC S b 3 0 out = some out1 := by rw [HEN.out, HST.out, if_pos (by rw [hx0]; rfl)]
                have HFIN := Lib.hid hfin
                subst hx0
                clear hfin
                go_wp2_with fail
                refine (HBL.out _).mono ?_
                rintro e w4 ⟨rfl, rfl⟩
                go_wp2_with fail
                refine HG1.out.mono ?_
                rintro e w4 ⟨rfl, rfl⟩
                go_wp2_with fail
                go_meet
                case rel => exact ⟨_, out1, rfl, HFIN, HNR.out⟩
              · have hxb : ((xn : Int) == 0) = false := beq_false_of_ne (by omega)
                have HST2 : Hid (entsC S b 3 0 out = if isName xn = true ∧ y < 32 then entsC S b f2 (k + 1) (out1 ++ [⟨wtext xn, y⟩]) else none) := by unfold Hid; rw [HEN.out, HST.out, if_neg (by omega)]
                clear hx0 HST
                go_wp2_with fail
                refine (HBL.out _).mono ?_
                rintro e w4 ⟨rfl, rfl⟩
                go_wp2_with fail
                refine HG1.out.mono ?_
                rintro e w4 ⟨rfl, rfl⟩
                have HNA := Lib.hid (name_any xn hxn64 wr)
                cases hin : isName xn with
                | false =>
                  rw [nameRes_no hin] at HNA
                  have HIN := Lib.hid hin
                  clear hin
                  go_wp2_with fail
                  refine HNA.out.mono ?_
                  rintro e w4 ⟨rfl, hb4⟩
                  have HB4 := Lib.hid hb4
                  have HM4 : Hid (Mod nob w w4) := HMW.out.step (mod_of_below hb4) (fun _ h => h)
                  clear hb4
                  go_wp2_with fail
                  refine (HBL.out _).mono ?_
                  rintro e w5 ⟨rfl, rfl⟩
                  go_wp2_with fail
                  refine (HG2.out _ HM4.out).mono ?_
                  rintro e w5 ⟨rfl, rfl⟩
                  go_wp2_with fail
                  refine bodyPost_ret (v := .tuple #[.slice none 0 0, .slice none 0 0, .bool false]) (by simp [results, Try.results124, go_sem]) rfl ?_
                  unfold ChainPost
                  rw [HNONE.out (by rw [HST2.out, if_neg (fun h => by rw [HIN.out] at h; cases h.1)])]
                  exact ⟨HBE.out.trans (HB4.out.mono HBE.out.size), rfl⟩
                | true =>
                  rw [nameRes_yes hin] at HNA
                  have HIN := Lib.hid hin
                  clear hin
                  go_wp2_with fail
                  refine HNA.out.mono ?_
                  rintro e w4 ⟨rfl, hb4⟩
                  have HB4 := Lib.hid hb4
                  have HM4 : Hid (Mod nob w w4) := HMW.out.step (mod_of_below hb4) (fun _ h => h)
                  have HP4 := Lib.hid (HNR.out.below hb4)
                  clear hb4
                  go_wp2_with fail
                  refine (HBL.out _).mono ?_
                  rintro e w5 ⟨rfl, rfl⟩
                  go_wp2_with fail
                  refine (HG2.out _ HM4.out).mono ?_
                  rintro e w5 ⟨rfl, rfl⟩
                  by_cases hy32 : 32 ≤ y
                  · have HY := Lib.hid hy32
                    go_wp2_with fail
                    refine bodyPost_ret (v := .tuple #[.slice none 0 0, .slice none 0 0, .bool false]) (by simp [results, Try.results124, go_sem]) rfl ?_
                    unfold ChainPost
                    rw [HNONE.out (by rw [HST2.out, if_neg (fun h => by have := h.2; have := HY.out; omega)])]
                    exact ⟨HBE.out.trans (HB4.out.mono HBE.out.size), rfl⟩
                  · have HY := Lib.hid hy32
                    have hy32' : y < 32 := by omega
                    have HO9 : Hid (w4.ownsRow w.heap.size 27 2 (.slice va1 n1 vc1) n1 (enC out1)) := by
                      have := HP4.out.o9
                      rw [← HN1.out] at this
                      exact this
                    go_wp2_with (at_builtin; refine wpList_append_own_at _ rfl (.tmp 55) (.tmp 60) 23 rfl w.heap.size 27 i1 _ 2 24 Try.underlying23 hi1 hy0 hy1 hy2 rfl (by decide) _ n1 (enC out1) rfl (HO9.out.alloc _) ⟨w4.heap.size, 0, none⟩ 1 1 [.string (wtext xn), .int .i64 y] rfl rfl (cells_new _ _ _) (by simp [Value.oneCell']) (by unfold maxLen; omega) (by omega) (by have := HP4.out.bel.size; simp; omega) ?_)
                    intro v' w6 hown hgr _ hat
                    rw [HN1.out] at hown
                    have HP6 := Lib.hid (HP4.out.pushE (x := ⟨wtext xn, y⟩) hown hgr (by simpa using hat))
                    clear hown hgr hat
                    go_wp2_with fail
                    go_roundg f2
                    case measure => omega
                    case rel => exact ⟨k + 1, out1 ++ [(⟨wtext xn, y⟩ : En)], by omega, by go_num, by unfold Hid; rw [HST2.out, if_pos ⟨HIN.out, by have := HY.out; omega⟩], HP6.out, by rw [List.length_append, ← HN1.out]; simp; omega⟩
            · have hge : ¬ (k : Int) < 3 := by omega
              obtain rfl : gk = 0 := by omega
              have hfin : entsC S b 3 0 out = some out1 := by rw [HEN.out]; rfl
              have HFIN := Lib.hid hfin
              clear hfin
              go_wp2_with fail
              go_meet
              case rel => exact ⟨_, out1, rfl, HFIN, HNR.out⟩
        case rest =>
          obtain ⟨ev, out2, rfl, HFIN, HNC⟩ := hcut
          have HMC : Hid (Mod nob w wc) := mod_of_below HNC.out.bel
          have HGX := Lib.hid (HG.out wc HMC.out (1080 + (b : Int) * 8))
          have hxr := HOK.out.get (1080 + (b : Int) * 8)
          obtain ⟨x, hx⟩ : ∃ x, x = S.get (1080 + (b : Int) * 8) := ⟨_, rfl⟩
          rw [← hx] at HGX hxr
          have HNU := Lib.hid (fun wx => number2_any x hxr.1 hxr.2 wx)
          have HFI : Hid (chain2 S b0 = chainC S f (numI x) out2 (own ++ [b])) := by unfold Hid; rw [HCH.out, HFIN.out, Option.bind_some, ← hx]
          have hlen2 := entsC_len S b 3 0 out out2 HFIN.out
          have hnl := numI_lt x
          clear hx hxr
          go_wp2_with fail
          refine (HBL.out _).mono ?_
          rintro e w4 ⟨rfl, rfl⟩
          go_wp2_with fail
          refine HGX.out.mono ?_
          rintro e w4 ⟨rfl, rfl⟩
          go_wp2_with fail
          refine (HNU.out _).mono ?_
          rintro e w4 ⟨rfl, rfl⟩
          go_wp2_with fail
          go_roundg f
          case measure => omega
          case rel => exact ⟨numI x, out2, own ++ [b], by have h1 := HN2.out; have h2 := HNO.out; simp; omega, by have h2 := HNO.out; simp; omega, rfl, hnl, HFI, HNC, by have h2 := HNO.out; have h3 := HNE.out; simp; omega⟩
end Go.Proofs.Ytlopdbhjdijlmaa
