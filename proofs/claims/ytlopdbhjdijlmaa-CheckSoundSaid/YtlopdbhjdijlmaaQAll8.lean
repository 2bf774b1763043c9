/-
  inode.All: a contract. No condition but the sheet.
-/
import Derived.Test.YtlopdbhjdijlmaaQGet8
import Derived.Test.YtlopdbhjdijlmaaQInoM

namespace Go.Proofs.Ytlopdbhjdijlmaa
open Go.ChangeShapes Go.WideShapes Go.ChangeAt Go.RowKit
set_option linter.unusedSimpArgs false
set_option linter.unusedVariables false

set_option maxRecDepth 20000 in
set_option maxHeartbeats 2000000 in
theorem all_ino {w : World} {p : Nat} {D : Nat → Prop} {S : Sh} (h : SheetAt w p D S) (i : Int) :
    Calls Try.prog 28 #[.pointer (some ⟨p, 0, none⟩), .int .i64 i] w fun e w' => ∃ v, e = .returned v ∧ HoldsN w' v (allI S i) ∧ (∀ g, v.ownBlock = some g → w.heap.size ≤ g) ∧ Below w.heap.size w w' := by
  obtain ⟨i0, hi0, hz0, hz1, hz2⟩ := info_parts infoInt
  have HOK := Lib.hid h.ok
  have HGT := Lib.hid (get_ino h i)
  clear h
  by_cases h0 : getE S i = 0
  · obtain ⟨m, xs, hg⟩ := getE_some h0
    have hall : allI S i = xs ++ blkN m.bl := by unfold allI; rw [hg]
    rw [hg, h0] at HGT
    obtain ⟨-, hmo, hmr, hxs, hx40⟩ := getR_law HOK.out hg
    rw [hall]
    have HMO := Lib.hid hmo
    have HMR := Lib.hid hmr
    have HX40 := Lib.hid hx40
    have H13 := Lib.hid (idx13i m.bl hmo.len)
    clear hall hg hmo hmr hxs hx40 h0
    go_enter Try.func28, Try.ntmps28
    go_wp2_with fail
    refine HGT.out.mono ?_
    rintro e w7 ⟨hb7, mv, xv, rfl, hmv, hxv, -, hgb⟩
    have HB7 := Lib.hid hb7
    have HXV := Lib.hid hxv
    obtain ⟨ma, mc, rfl, -, -, -, -⟩ := hmv
    obtain ⟨xa, xc, rfl, x1, x2, -, -⟩ := hxv
    unfold maxLen at x2
    clear hb7 HGT hgb
    have hszA : (inoL m (.slice ma m.ents.length mc)).toArray.size = 18 := by simp [inoL_len HMO.out.len]
    have HTH : Hid ((w7.alloc (.cells z18 25)).there w7.heap.size 0 (inoL m (.slice ma m.ents.length mc)).toArray.size) := by
      unfold Hid; rw [hszA]; exact ino_there w7 _
    have HISZ : Hid ((Try.prog.info? 25).map (·.size) = some (inoL m (.slice ma m.ents.length mc)).toArray.size) := by
      unfold Hid; rw [hszA]; exact Try.info18
    have HONE : Hid ((inoL m (.slice ma m.ents.length mc)).toArray.all (·.oneCell') = true) := all_oneCell_toArray (inoL_one rfl)
    have HROW := Lib.hid (ino_row w7 25 (inoL m (.slice ma m.ents.length mc)) (inoL_len HMO.out.len _))
    clear hszA
    go_upto_region 4 with (with_reducible refine wpList_store_mid (op := ⟨none, _, _, _, _, _⟩) rfl 25 _ _ rfl w7.heap.size 0 (inoL m (.slice ma m.ents.length mc)).toArray rfl rfl HTH.out HISZ.out HONE.out ?_)
    have HIX : Hid (InoB ((w7.alloc (.cells z18 25)).setCells w7.heap.size 0 (inoL m (.slice ma m.ents.length mc))) w7.heap.size m (.slice ma m.ents.length mc)) := ⟨HROW.out.1, HMO.out.len⟩
    have HMX : Hid (Mod nob w7 ((w7.alloc (.cells z18 25)).setCells w7.heap.size 0 (inoL m (.slice ma m.ents.length mc)))) := mod_of_below HROW.out.2
    clear HROW HTH HISZ HONE
    generalize (w7.alloc (.cells z18 25)).setCells w7.heap.size 0 (inoL m (.slice ma m.ents.length mc)) = w5 at *
    obtain ⟨X, hX⟩ : ∃ X, X = w7.heap.size := ⟨_, rfl⟩
    rw [← hX] at HIX ⊢
    clear hX
    have HBW : Hid (Below w.heap.size w w5) := HB7.out.trans (HMX.out.below HB7.out.size (fun b h => h.elim))
    obtain ⟨M, hM⟩ : ∃ M, M = xs.length := ⟨_, rfl⟩
    have HCN : Hid (HoldsC w5 (.slice xa M xc) M (nums xs)) := by
      have := (HXV.out.mod HMX.out (fun _ _ _ h => h)).cells
      rw [← hM] at this
      exact this
    have HXL : Hid ((nums xs).length = M * 1) := by unfold Hid; rw [nums_len, ← hM]; omega
    have hM40 : M ≤ 40 := by rw [hM]; exact HX40.out
    rw [← hM] at x1 ⊢
    have HML := Lib.hid hM
    clear hM HX40 HXV HMX HB7
    go_wp2_with (at_builtin; refine wpList_append_any rfl (.tmp 20) (.tmp 21) _ rfl w5.heap.size 3 i0 _ 1 8 Try.underlying56 hi0 hz0 hz1 hz2 rfl (by omega) (.slice (some ⟨w5.heap.size, 0, none⟩) 0 0) 0 [] rfl (own_block (cs := #[]) (n := 0) ?_ (Nat.le_refl _) (Nat.zero_le _) rfl) _ M (nums xs) rfl (HoldsC.mod (D := nob) HCN.out ?_ (fun _ _ h => h)) HXL.out (nums_one xs) (by unfold maxLen; omega) (by omega) ?_ ?_)
    · first | exact heap_alloc_new _ _ | exact heap_new1 _ _ _ | exact heap_new0 _ _ _
    · repeat (first | exact Mod.refl _ _ | refine Mod.drew ?_ | refine Mod.alloc ?_ _)
    · first | (simp; done) | (simp; omega)
    intro v' w6 hown6 hgrow hat
    try simp only [Nat.zero_add, List.nil_append] at hown6
    have HB56 : Hid (Below w5.heap.size w5 w6) := ((Below.refl _ _).alloc (Nat.le_refl _) _).grown hgrow (by simp) (by intro q hq; simp [Value.ownBlock] at hq; omega)
    have HO6 := Lib.hid hown6
    have HI6 := Lib.hid (HIX.out.mod (mod_of_below HB56.out) (fun h => h))
    have HRB := Lib.hid (HI6.out.at.blocks HMO.out.len)
    have HSB : Hid ((Try.prog.info? 22).map (·.size) = some (m.bl.map (Value.int .i64)).length) := by
      unfold Hid; rw [List.length_map, HMO.out.len]; exact Try.info13
    obtain ⟨oa, oc, rfl, o1, o2, -⟩ := own_shape hown6
    clear hown6 hgrow hat HCN HIX
    go_wp2_with (with_reducible refine wpList_load_mid (op := ⟨some 24, _, _, _, _, _⟩) rfl 22 _ rfl X (0 + 4) rfl (m.bl.map (Value.int .i64)) _ HRB.out Try.underlying22 rfl HSB.out ?_)
    go_loopg [8, 25] 13 (fun gk v iv wr => ∃ k : Nat, k + gk = 13 ∧ iv = .int .i64 k ∧ Hid (wr.ownsRow w5.heap.size 3 1 v (M + (blkN (m.bl.take k)).length) (nums (xs ++ blkN (m.bl.take k)))) ∧ Hid (Below w5.heap.size w5 wr))
    case atStart =>
      refine ⟨0, by omega, rfl, ?_, HB56.out⟩
      unfold Hid
      simpa [blkN] using HO6.out
    case round =>
      obtain ⟨k, hk, rfl, HO, HB⟩ := hrel
      obtain ⟨oa, oc, rfl, o1, o2, -⟩ := own_shape HO.out
      have hbl := blkN_len (m.bl.take k)
      rw [List.length_take] at hbl
      by_cases hlt : k < 13
      · have hki : (k : Int) < 13 := by omega
        have hk0 : (0 : Int) ≤ (k : Int) := Int.natCast_nonneg _
        have hx := bl_range HMR.out k hlt
        have hidx := H13.out k hlt
        have htk : m.bl.take (k + 1) = m.bl.take k ++ [m.bl.getD k 0] := by
          have hkl : k < m.bl.length := by rw [HMO.out.len]; exact hlt
          rw [List.take_succ_eq_append_getElem hkl, List.getD_eq_getElem?_getD, List.getElem?_eq_getElem hkl]
          rfl
        obtain ⟨x, hxx⟩ : ∃ x, x = m.bl.getD k 0 := ⟨_, rfl⟩
        rw [← hxx] at hx hidx htk
        have hsn := blkN_snoc (m.bl.take k) x
        rw [← htk] at hsn
        obtain ⟨q, hq⟩ : ∃ q, q = M + (blkN (m.bl.take k)).length := ⟨_, rfl⟩
        have hq53 : q ≤ 53 := by rw [hq]; omega
        have HQQ := Lib.hid hq
        rw [← hq] at HO o1 ⊢
        obtain ⟨y0, y1⟩ := hx
        clear hxx htk hq hbl
        by_cases hz : x = 0
        · rw [if_pos hz] at hsn
          have HO2 : Hid (wr.ownsRow w5.heap.size 3 1 (.slice oa q oc) (M + (blkN (m.bl.take (k + 1))).length) (nums (xs ++ blkN (m.bl.take (k + 1))))) := by
            unfold Hid; rw [hsn, ← HQQ.out]; exact HO.out
          subst hz
          clear hsn
          go_wp2_with fail
          go_roundg (gk - 1)
          case measure => omega
          case rel => exact ⟨k + 1, by omega, by go_num, HO2, HB⟩
        · rw [if_neg hz] at hsn
          have HSN := Lib.hid hsn
          have hzb : (x != 0) = true := by simpa using hz
          have HWS : Hid (w5.heap.size ≤ wr.heap.size) := HB.out.size
          clear hsn hz
          go_wp2_with (at_builtin; refine wpList_append_own_at _ rfl (.tmp 30) (.tmp 32) 56 rfl w5.heap.size 3 i0 (.int .i64 0) 1 8 Try.underlying56 hi0 hz0 hz1 hz2 rfl (by decide) _ q (nums (xs ++ blkN (m.bl.take k))) rfl (HO.out.alloc _) ⟨wr.heap.size, 0, none⟩ 1 1 [.int .i64 x] rfl rfl (cells_new _ _ _) (by simp [Value.oneCell']) (by unfold maxLen; omega) (by omega) (by have := HWS.out; simp; omega) ?_)
          intro v2 w2 hown2 hgr2 _ hat2
          have HO2 : Hid (w2.ownsRow w5.heap.size 3 1 v2 (M + (blkN (m.bl.take (k + 1))).length) (nums (xs ++ blkN (m.bl.take (k + 1))))) := by
            unfold Hid
            rw [HSN.out, ← List.append_assoc, nums_snoc, Int.toNat_of_nonneg y0, List.length_append, List.length_singleton, ← Nat.add_assoc, ← HQQ.out]
            exact hown2
          have HB2 : Hid (Below w5.heap.size w5 w2) := (HB.out.alloc HWS.out _).grown hgr2 (by have := HWS.out; simp; omega) (fun q hq => own_ge HO.out q hq)
          clear hown2 hgr2 hat2
          obtain ⟨pa, pc, rfl, -, -, -⟩ := own_shape HO2.out
          go_wp2_with fail
          go_roundg (gk - 1)
          case measure => omega
          case rel => exact ⟨k + 1, by omega, by go_num, HO2, HB2⟩
      · have hge : ¬ (k : Int) < 13 := by omega
        obtain rfl : k = 13 := by omega
        have htk : m.bl.take 13 = m.bl := List.take_of_length_le (by rw [HMO.out.len]; omega)
        have hfin : HoldsN wr (.slice oa (M + (blkN (m.bl.take 13)).length) oc) (xs ++ blkN m.bl) := by
          have := HO.out
          rw [htk] at this ⊢
          exact holdsN_of_own (by rw [List.length_append, ← HML.out]) this
        have HF := Lib.hid hfin
        have HGE : Hid (∀ g, (Value.slice oa (M + (blkN (m.bl.take 13)).length) oc).ownBlock = some g → w.heap.size ≤ g) := fun g hg => Nat.le_trans HBW.out.size (own_ge HO.out g hg)
        clear htk hfin hbl
        go_wp2_with fail
        go_ret
        exact ⟨_, rfl, HF.out, HGE.out, HBW.out.trans (HB.out.mono HBW.out.size)⟩
  · have hall : allI S i = [] := by unfold allI; rw [getE_none h0]
    rw [getE_none h0] at HGT
    rw [hall]
    obtain ⟨e0, he0⟩ : ∃ e, e = getE S i := ⟨_, rfl⟩
    rw [← he0] at HGT h0
    have h0b : (e0 != 0) = true := by simpa using h0
    clear hall he0 h0
    go_enter Try.func28, Try.ntmps28
    go_wp2_with fail
    refine HGT.out.mono ?_
    rintro e w7 ⟨hb7, rfl⟩
    have HB7 := Lib.hid hb7
    clear hb7 HGT
    have hszA : (inoL ino0 (.slice none 0 0)).toArray.size = 18 := by simp [inoL_len (show ino0.bl.length = 13 from rfl)]
    have HTH : Hid ((w7.alloc (.cells z18 25)).there w7.heap.size 0 (inoL ino0 (.slice none 0 0)).toArray.size) := by
      unfold Hid; rw [hszA]; exact ino_there w7 _
    have HISZ : Hid ((Try.prog.info? 25).map (·.size) = some (inoL ino0 (.slice none 0 0)).toArray.size) := by
      unfold Hid; rw [hszA]; exact Try.info18
    have HONE : Hid ((inoL ino0 (.slice none 0 0)).toArray.all (·.oneCell') = true) := all_oneCell_toArray (inoL_one rfl)
    have HROW := Lib.hid (ino_row w7 25 (inoL ino0 (.slice none 0 0)) (inoL_len (show ino0.bl.length = 13 from rfl) _))
    clear hszA
    go_wp2_with (with_reducible refine wpList_store_mid (op := ⟨none, _, _, _, _, _⟩) rfl 25 _ _ rfl w7.heap.size 0 (inoL ino0 (.slice none 0 0)).toArray rfl rfl HTH.out HISZ.out HONE.out ?_)
    go_ret
    exact ⟨_, rfl, HoldsN.nil _, (fun g hg => by cases hg), HB7.out.trans (HROW.out.2.mono HB7.out.size)⟩
end Go.Proofs.Ytlopdbhjdijlmaa
