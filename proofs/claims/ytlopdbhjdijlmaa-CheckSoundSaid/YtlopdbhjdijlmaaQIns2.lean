/-
  fmt2.insert: a contract. No condition but the bounds that are typed.
-/
import Derived.Test.YtlopdbhjdijlmaaQChain2
import Derived.Test.YtlopdbhjdijlmaaQInsM

namespace Go.Proofs.Ytlopdbhjdijlmaa
open Go.ChangeShapes Go.WideShapes Go.ChangeAt Go.RowKit
set_option linter.unusedSimpArgs false
set_option linter.unusedVariables false

set_option maxRecDepth 20000 in
set_option maxHeartbeats 8000000 in
theorem insert_any {w : World} {ev : Value} {l : List En} (x : En) (he : HoldsE w ev l) (hl : l.length ≤ 24) :
    Calls Try.prog 125 #[ev, .agg #[.string x.name, .int .i64 x.ino]] w fun e w' => ∃ v', e = .returned v' ∧ w'.ownsRow w.heap.size 27 2 v' (l.length + 1) (enC (insL l x)) ∧ Below w.heap.size w w' := by
  obtain ⟨i1, hi1, hy0, hy1, hy2⟩ := info_parts Try.infoEntry
  have HE := Lib.hid he
  obtain ⟨ao, c, rfl, e1, e2, e3, -⟩ := he
  obtain ⟨L, hL⟩ : ∃ L, L = l.length := ⟨_, rfl⟩
  rw [← hL] at e1 hl HE ⊢
  have HL := Lib.hid hL
  unfold maxLen at e2
  obtain ⟨nm, ino⟩ := x
  dsimp only
  have hbx := heap_alloc_new w (.cells #[.string nm, .int .i64 ino] 27)
  have HBW : Hid (Below w.heap.size w (w.alloc (.cells #[.string nm, .int .i64 ino] 27))) := (Below.refl _ _).alloc (Nat.le_refl _) _
  have HE0 : Hid (HoldsE (w.alloc (.cells #[.string nm, .int .i64 ino] 27)) (.slice ao L c) l) := HE.out.below HBW.out
  have HBX := Lib.hid hbx
  have HSZ : Hid (w.heap.size < (w.alloc (.cells #[.string nm, .int .i64 ino] 27)).heap.size) := by unfold Hid; simp
  clear hL hbx e3
  go_enter Try.func125, Try.ntmps125
  go_upto_block 0 with (fail)
  obtain ⟨B, hB⟩ : ∃ B, B = w.heap.size := ⟨_, rfl⟩
  rw [← hB] at HBX HSZ HBW ⊢
  generalize w.alloc (.cells #[.string nm, .int .i64 ino] 27) = w0 at *
  have HBB := Lib.hid hB
  clear hB
  go_cut [5] (fun iv wc => ∃ k : Nat, iv = .int .i64 k ∧ k ≤ L ∧ Hid (insK l ⟨nm, ino⟩ = k) ∧ Hid (Mod nob w0 wc))
  case first =>
    go_wp2_with fail
    go_loopg [5] L (fun gk iv wr => ∃ k : Nat, k + gk = L ∧ iv = .int .i64 k ∧ Hid (∀ j, j < k → ltE (l.getD j default) ⟨nm, ino⟩ = true) ∧ Hid (Mod nob w0 wr))
    case atStart => exact ⟨0, by omega, rfl, (fun j hj => by omega), Mod.refl _ _⟩
    case round =>
      obtain ⟨k, hk, rfl, HLT, HMO⟩ := hrel
      have hbx := HMO.out.heap HBX.out (fun h => h)
      have x0 : wr.cell? ⟨B, 0, none⟩ = some (.string nm) := by rw [cell_of_row _ _ _ _ _ _ hbx]; rfl
      have x1 : wr.cell? ⟨B, 1, none⟩ = some (.int .i64 ino) := by rw [cell_of_row _ _ _ _ _ _ hbx]; rfl
      have HBX2 := Lib.hid hbx
      have HE1 := Lib.hid (HE0.out.mod HMO.out (fun _ _ _ h => h))
      clear hbx
      by_cases hlt : k < L
      · have hli : (k : Int) < (L : Int) := by omega
        obtain ⟨ao', c', e, -, -, -, hcell⟩ := HE1.out
        simp only [Value.slice.injEq] at e
        obtain ⟨rfl, -, rfl⟩ := e
        obtain ⟨g, o, rfl, d1, d2⟩ := hcell k (by rw [← HL.out]; exact hlt)
        have hxl : ltE (l.getD k default) ⟨nm, ino⟩ = Op.bytesLess (l.getD k default).name.toList nm.toList := rfl
        have HXL := Lib.hid hxl
        clear hcell hxl
        obtain ⟨ym, hym⟩ : ∃ ym, ym = (l.getD k default).name := ⟨_, rfl⟩
        rw [← hym] at d1 HXL
        clear hym
        cases hb : Op.bytesLess ym.toList nm.toList with
        | true =>
          have hb' := hb
          have HBT := Lib.hid hb
          clear hb
          go_upto_region 2 with (fail)
          go_quiet (fail)
          go_wp2_with fail
          go_roundg (gk - 1)
          case measure => omega
          case rel =>
            refine ⟨k + 1, by omega, by go_num, fun j hj => ?_, HMO.out.drewN _⟩
            by_cases e : j = k
            · subst e
              rw [HXL.out]
              exact HBT.out
            · exact HLT.out j (by omega)
        | false =>
          have HK : Hid (insK l ⟨nm, ino⟩ = k) := insK_eq _ _ _ (by rw [← HL.out]; omega) HLT.out (fun _ => by rw [HXL.out]; exact hb)
          have HBT := Lib.hid hb
          go_upto_region 2 with (fail)
          go_quiet (fail)
          clear hb d1 d2
          go_wp2_with fail
          go_meet
          case rel => exact ⟨k, rfl, by omega, HK, HMO.out.drewN _⟩
      · obtain rfl : k = L := by omega
        have hge : ¬ (k : Int) < (k : Int) := by omega
        have HK : Hid (insK l ⟨nm, ino⟩ = k) := insK_eq _ _ _ (by rw [← HL.out]; omega) HLT.out (fun h => by have := HL.out; omega)
        go_upto_region 2 with (fail)
        go_quiet (fail)
        go_wp2_with fail
        go_meet
        case rel => exact ⟨k, rfl, by omega, HK, HMO.out.drewN _⟩
  case rest =>
    obtain ⟨k, rfl, hkL, HK, HMO⟩ := hcut
    have hbx := HMO.out.heap HBX.out (fun h => h)
    have HBX2 := Lib.hid hbx
    have HE1 := Lib.hid (HE0.out.mod HMO.out (fun _ _ _ h => h))
    have hkl : k ≤ l.length := by rw [← HL.out]; exact hkL
    have HT1 := Lib.hid (HE1.out.take2 k hkl)
    obtain ⟨tv, htv⟩ : ∃ tv, tv = Value.slice (if c = k then ao else ao.map fun x => x.add (k * 2)) (L - k) (c - k) := ⟨_, rfl⟩
    have HT2 : Hid (HoldsE wc tv (l.drop k)) := by
      unfold Hid
      rw [htv]
      split
      · have : k = l.length := by rw [← HL.out]; omega
        rw [show L - k = 0 by omega, show c - k = 0 by omega, List.drop_of_length_le (by omega)]
        exact ⟨ao, 0, rfl, Nat.le_refl _, Nat.zero_le _, fun _ => rfl, fun j hj => by simp at hj⟩
      · exact HE1.out.drop2 k hkl
    have HTV := Lib.hid htv
    have HRA : Hid (wc.rangeAt B 0 [.string nm, .int .i64 ino]) := fun j v hj => by
      rw [Nat.zero_add, cell_of_row _ _ _ _ _ _ hbx]
      simpa using hj
    have HU := Lib.hid Try.underlying27
    have HSZ2 : Hid ((Try.prog.info? 27).map (·.size) = some [Value.string nm, .int .i64 ino].length) := by unfold Hid; rw [hi1]; simp [hy1]
    clear hbx htv hkl
    go_upto_region 4 with (fail)
    refine wp_region_noPanic ?_
    refine wp_region_held_drew (S := fun w' => w'.rangeAt B 0 [.string nm, .int .i64 ino]) (by kernel_rfl) HRA.out (fun hHeld => ?_)
    refine wpAnyH_take (i := 1) (v := .slice ao L c) rfl (by kernel_rfl) (by kernel_rfl) (by kernel_rfl) (fun _ _ _ h => h) (Or.inl ⟨by rfl, ?_⟩) hHeld ?_
    case refine_1 =>
      rintro wx -
      go_simp
    simp only [Act.put, List.setIfInBounds_toArray, List.set_cons_zero, List.set_cons_succ]
    refine wpAnyH_take (i := 2) (v := .int .i64 k) rfl (by kernel_rfl) (by kernel_rfl) (by kernel_rfl) (fun _ _ _ h => h) (Or.inl ⟨by rfl, ?_⟩) hHeld ?_
    case refine_1 =>
      rintro wx -
      go_simp
    simp only [Act.put, List.setIfInBounds_toArray, List.set_cons_zero, List.set_cons_succ]
    refine wpAnyH_take (i := 3) (v := .slice ao k c) rfl (by kernel_rfl) (by kernel_rfl) (by kernel_rfl) (fun _ _ _ h => h) (Or.inl ⟨by rfl, ?_⟩) hHeld ?_
    case refine_1 =>
      rintro wx -
      go_simp
      intro h
      omega
    simp only [Act.put, List.setIfInBounds_toArray, List.set_cons_zero, List.set_cons_succ]
    refine wpAnyH_take (i := 5) (v := .agg #[.string nm, .int .i64 ino]) rfl (by kernel_rfl) (by kernel_rfl) (by kernel_rfl) (fun _ _ _ h => h) (yieldsIf_load_mid (by rfl) 27 _ rfl B 0 rfl _ _ (fun _ h => h) HU.out rfl HSZ2.out) hHeld ?_
    simp only [Act.put, List.setIfInBounds_toArray, List.set_cons_zero, List.set_cons_succ]
    refine wpAnyH_take (i := 8) (v := .slice ao L c) rfl (by kernel_rfl) (by kernel_rfl) (by kernel_rfl) (fun _ _ _ h => h) (Or.inl ⟨by rfl, ?_⟩) hHeld ?_
    case refine_1 =>
      rintro wx -
      go_simp
    simp only [Act.put, List.setIfInBounds_toArray, List.set_cons_zero, List.set_cons_succ]
    refine wpAnyH_take (i := 9) (v := .int .i64 k) rfl (by kernel_rfl) (by kernel_rfl) (by kernel_rfl) (fun _ _ _ h => h) (Or.inl ⟨by rfl, ?_⟩) hHeld ?_
    case refine_1 =>
      rintro wx -
      go_simp
    simp only [Act.put, List.setIfInBounds_toArray, List.set_cons_zero, List.set_cons_succ]
    refine wpAnyH_take (i := 10) (v := tv) rfl (by kernel_rfl) (by kernel_rfl) (by kernel_rfl) (fun _ _ _ h => h) (Or.inl ⟨by rfl, ?_⟩) hHeld ?_
    case refine_1 =>
      rintro wx -
      go_simp
      exact HTV.out.symm
    simp only [Act.put, List.setIfInBounds_toArray, List.set_cons_zero, List.set_cons_succ]
    obtain ⟨n, hn⟩ : ∃ n, n = wc.heap.size := ⟨_, rfl⟩
    have HN := Lib.hid hn
    have HXS : ∀ wx, Mod nob wc wx → wx.rangeAt B 0 [.string nm, .int .i64 ino] := fun wx hm j v hj => hm.cell (HRA.out j v hj) (fun h => h)
    have HXSH := Lib.hid HXS
    have hc1 : enC (l.take k) ++ [Value.string nm, .int .i64 ino] ++ enC (l.drop k) = enC (insL l ⟨nm, ino⟩) := by
      unfold insL
      rw [HK.out, enC_append, List.append_assoc]
      rfl
    have HC1 := Lib.hid hc1
    have htl : (l.take k).length = k := by rw [List.length_take, ← HL.out]; omega
    have HTL := Lib.hid htl
    clear hn HXS hc1 htl
    have ht24 : (l.take k).length ≤ 24 := by rw [HTL.out]; omega
    have hd24 : (l.drop k).length ≤ 24 := by rw [List.length_drop, ← HL.out]; omega
    have HM : Hid (Mod nob wc wc.drew) := (Mod.refl nob wc).drew
    have HGE : Hid (n ≤ wc.drew.heap.size) := by rw [HN.out]; exact Nat.le_refl _
    generalize wc.drew = wd at *
    refine wpAnyH_ready (rs := [0, 6]) (by kernel_rfl) (by simp) ?_
    refine AllReadyH.cons rfl (fun K hK => ?_) (AllReadyH.cons rfl (fun K hK => ?_) AllReadyH.nil)
    · go_simp
      obtain ⟨b22, hb22⟩ : ∃ b, b = wd.heap.size := ⟨_, rfl⟩
      have HM' : Hid (Mod nob wc (wd.alloc (.cells #[] 27))) := HM.out.alloc _
      have hx22 : (wd.alloc (.cells #[] 27)).heap[b22]? = some (.cells #[] 27 (0, 0)) := by rw [hb22]; exact heap_alloc_new _ _
      have O22 : Hid ((wd.alloc (.cells #[] 27)).ownsRow n 27 2 (.slice (some ⟨b22, 0, none⟩) 0 0) 0 []) := own_block hx22 (by rw [hb22]; exact HGE.out) (Nat.zero_le _) rfl
      have HL22 : Hid (b22 < (wd.alloc (.cells #[] 27)).heap.size) := by unfold Hid; rw [hb22]; simp
      have HGE' : Hid (n ≤ (wd.alloc (.cells #[] 27)).heap.size) := by rw [HN.out]; exact HM'.out.size
      rw [← hb22]
      refine hK.out _ _ (HXSH.out _ HM'.out) (fun hHeld2 => ?_)
      clear hK K
      try simp only [Act.put, List.setIfInBounds_toArray, List.set_cons_zero, List.set_cons_succ]
      clear hb22 hx22 HM HGE
      have HM := HM'
      have HGE := HGE'
      clear HM' HGE'
      generalize wd.alloc (.cells #[] 27) = wa at *
      refine wpAnyH_ready (rs := [4, 6]) (by kernel_rfl) (by simp) ?_
      refine AllReadyH.cons rfl (fun K hK => ?_) (AllReadyH.cons rfl (fun K hK => ?_) AllReadyH.nil)
      · have HT1b := Lib.hid (HT1.out.mod HM.out (fun _ _ _ h => h))
        refine step_append_any (by rfl) (.tmp 22) (.tmp 25) _ (by rfl) n 27 i1 _ 2 24 Try.underlying23 hi1 hy0 hy1 hy2 rfl (by omega) (.slice (some ⟨b22, 0, none⟩) 0 0) 0 ([]) (by rfl) O22.out (.slice ao k c) (l.take k).length (enC (l.take k)) (by rfl) (by have := HT1b.out.cells; exact this) ?_ ?_ (by unfold maxLen; omega) (by omega) ?_ ?_
        · rw [enC_len]
        · exact enC_one _
        · exact HGE.out
        intro v26 wb hown hgr _
        rw [Nat.zero_add, List.nil_append, HTL.out] at hown
        have O26 := Lib.hid hown
        have HM' : Hid (Mod nob wc wb) := mod_grown HM.out hgr (fun k hk => by have := own_ge O22.out k hk; have := HN.out; omega)
        have HGE' : Hid (n ≤ wb.heap.size) := by rw [HN.out]; exact HM'.out.size
        clear hown hgr
        change K (Act.put _ (some 26) _) _
        simp only [Act.put, List.setIfInBounds_toArray, List.set_cons_zero, List.set_cons_succ]
        refine hK.out _ _ (HXSH.out _ HM'.out) (fun hHeld2 => ?_)
        clear hK K
        try simp only [Act.put, List.setIfInBounds_toArray, List.set_cons_zero, List.set_cons_succ]
        clear HM HGE
        have HM := HM'
        have HGE := HGE'
        clear HM' HGE'
        refine wpAnyH_ready (rs := [6]) (by kernel_rfl) (by simp) ?_
        refine AllReadyH.cons rfl (fun K hK => ?_) AllReadyH.nil
        go_simp
        obtain ⟨b28, hb28⟩ : ∃ b, b = wb.heap.size := ⟨_, rfl⟩
        have HM' : Hid (Mod nob wc (wb.alloc (.cells #[.string nm, .int .i64 ino] 27))) := HM.out.alloc _
        have H28 : Hid ((wb.alloc (.cells #[.string nm, .int .i64 ino] 27)).heap[b28]? = some (.cells #[.string nm, .int .i64 ino] 27 (0, 0))) := by unfold Hid; rw [hb28]; exact heap_alloc_new _ _
        have HL28 : Hid (b28 < (wb.alloc (.cells #[.string nm, .int .i64 ino] 27)).heap.size) := by unfold Hid; rw [hb28]; simp
        have O26' : Hid ((wb.alloc (.cells #[.string nm, .int .i64 ino] 27)).ownsRow n 27 2 v26 k (enC (l.take k))) := ((Mod.refl nob wb).alloc _).own O26.out (fun _ _ h => h)
        clear O26
        have O26 := O26'
        clear O26'
        have HGE' : Hid (n ≤ (wb.alloc (.cells #[.string nm, .int .i64 ino] 27)).heap.size) := by rw [HN.out]; exact HM'.out.size
        rw [← hb28]
        refine hK.out _ _ (HXSH.out _ HM'.out) (fun hHeld2 => ?_)
        clear hK K
        try simp only [Act.put, List.setIfInBounds_toArray, List.set_cons_zero, List.set_cons_succ]
        clear hb28 HM HGE
        have HM := HM'
        have HGE := HGE'
        clear HM' HGE'
        generalize wb.alloc (.cells #[.string nm, .int .i64 ino] 27) = w4 at *
        refine wpAnyH_ready (rs := [7]) (by kernel_rfl) (by simp) ?_
        refine AllReadyH.cons rfl (fun K hK => ?_) AllReadyH.nil
        refine step_append_any (by rfl) (.tmp 26) (.tmp 28) _ (by rfl) n 27 i1 _ 2 24 Try.underlying23 hi1 hy0 hy1 hy2 rfl (by omega) v26 k (enC (l.take k)) (by rfl) O26.out (.slice (some ⟨b28, 0, none⟩) 1 1) 1 ([Value.string nm, .int .i64 ino]) (by rfl) (HoldsC.block (cs := #[.string nm, .int .i64 ino]) (t := 27) (fr := (0, 0)) H28.out (by unfold maxLen; omega)) ?_ ?_ (by unfold maxLen; omega) (by omega) ?_ ?_
        · rfl
        · intro u hu; simp only [List.mem_cons, List.not_mem_nil, or_false] at hu; rcases hu with rfl | rfl <;> rfl
        · exact HGE.out
        intro v29 w5 hown hgr _
        have HM5 : Hid (Mod nob wc w5) := mod_grown HM.out hgr (fun k hk => by have := own_ge O26.out k hk; have := HN.out; omega)
        have O29 := Lib.hid hown
        have HT2b := Lib.hid (HT2.out.mod HM5.out (fun _ _ _ h => h))
        have HGE5 : Hid (n ≤ w5.heap.size) := by rw [HN.out]; exact HM5.out.size
        clear hown hgr
        change K (Act.put _ (some 29) _) _
        simp only [Act.put, List.setIfInBounds_toArray, List.set_cons_zero, List.set_cons_succ]
        refine hK.out _ _ (HXSH.out _ HM5.out) (fun hHeld2 => ?_)
        clear hK K
        try simp only [Act.put, List.setIfInBounds_toArray, List.set_cons_zero, List.set_cons_succ]
        refine wpAnyH_ready (rs := [11]) (by kernel_rfl) (by simp) ?_
        refine AllReadyH.cons rfl (fun K hK => ?_) AllReadyH.nil
        refine step_append_any (by rfl) (.tmp 29) (.tmp 32) _ (by rfl) n 27 i1 _ 2 24 Try.underlying23 hi1 hy0 hy1 hy2 rfl (by omega) v29 (k + 1) (enC (l.take k) ++ [Value.string nm, .int .i64 ino]) (by rfl) O29.out tv (l.drop k).length (enC (l.drop k)) (by rfl) HT2b.out.cells ?_ ?_ (by unfold maxLen; omega) (by omega) ?_ ?_
        · rw [enC_len]
        · exact enC_one _
        · exact HGE5.out
        intro v33 w6 hown hgr _
        have HM6 : Hid (Mod nob wc w6) := mod_grown HM5.out hgr (fun k hk => by have := own_ge O29.out k hk; have := HN.out; omega)
        rw [HC1.out, show k + 1 + (l.drop k).length = L + 1 by rw [List.length_drop, ← HL.out]; omega] at hown
        have O33 := Lib.hid hown
        clear hown hgr
        change K (Act.put _ (some 33) _) _
        simp only [Act.put, List.setIfInBounds_toArray, List.set_cons_zero, List.set_cons_succ]
        refine hK.out _ _ (HXSH.out _ HM6.out) (fun hHeld2 => ?_)
        clear hK K
        try simp only [Act.put, List.setIfInBounds_toArray, List.set_cons_zero, List.set_cons_succ]
        refine wpAnyH_take (i := 12) (v := v33) rfl (by kernel_rfl) (by kernel_rfl) (by kernel_rfl) (fun _ _ _ h => h) (Or.inl ⟨by rfl, ?_⟩) hHeld2 ?_
        case refine_1 =>
          rintro wx -
          go_simp
        change wpAnyH _ _ _ _ _ _ _ (Act.put _ (some 4) _) _
        simp only [Act.put, List.setIfInBounds_toArray, List.set_cons_zero, List.set_cons_succ]
        refine wpAnyH_done (by kernel_rfl) ?_ _
        refine NoPanic.normal ?_
        clear hHeld hHeld2
        obtain ⟨va, vc, rfl, -, -, -⟩ := own_shape O33.out
        go_wp2_with fail
        go_ret
        refine ⟨_, rfl, ?_, ?_⟩
        · have := own_base O33.out (show w.heap.size ≤ n by have h1 := HSZ.out; have h2 := HMO.out.size; have h3 := HN.out; have h4 := HBB.out; omega)
          exact this
        · have h1 : Below w.heap.size w w0 := by rw [← HBB.out]; exact HBW.out
          have h2 : w.heap.size < w0.heap.size := by rw [← HBB.out]; exact HSZ.out
          exact (h1.trans ((nob_mod_below HMO.out).mono (by omega))).trans ((nob_mod_below HM6.out).mono (by have := HMO.out.size; omega))
      · go_simp
        obtain ⟨b28, hb28⟩ : ∃ b, b = wa.heap.size := ⟨_, rfl⟩
        have HM' : Hid (Mod nob wc (wa.alloc (.cells #[.string nm, .int .i64 ino] 27))) := HM.out.alloc _
        have H28 : Hid ((wa.alloc (.cells #[.string nm, .int .i64 ino] 27)).heap[b28]? = some (.cells #[.string nm, .int .i64 ino] 27 (0, 0))) := by unfold Hid; rw [hb28]; exact heap_alloc_new _ _
        have HL28 : Hid (b28 < (wa.alloc (.cells #[.string nm, .int .i64 ino] 27)).heap.size) := by unfold Hid; rw [hb28]; simp
        have O22' : Hid ((wa.alloc (.cells #[.string nm, .int .i64 ino] 27)).ownsRow n 27 2 (.slice (some ⟨b22, 0, none⟩) 0 0) 0 []) := ((Mod.refl nob wa).alloc _).own O22.out (fun _ _ h => h)
        clear O22
        have O22 := O22'
        clear O22'
        have HNE : Hid (b28 ≠ b22) := by unfold Hid; rw [hb28]; exact Nat.ne_of_gt HL22.out
        have HGE' : Hid (n ≤ (wa.alloc (.cells #[.string nm, .int .i64 ino] 27)).heap.size) := by rw [HN.out]; exact HM'.out.size
        rw [← hb28]
        refine hK.out _ _ (HXSH.out _ HM'.out) (fun hHeld2 => ?_)
        clear hK K
        try simp only [Act.put, List.setIfInBounds_toArray, List.set_cons_zero, List.set_cons_succ]
        clear hb28 HM HGE
        have HM := HM'
        have HGE := HGE'
        clear HM' HGE'
        generalize wa.alloc (.cells #[.string nm, .int .i64 ino] 27) = wb at *
        refine wpAnyH_ready (rs := [4]) (by kernel_rfl) (by simp) ?_
        refine AllReadyH.cons rfl (fun K hK => ?_) AllReadyH.nil
        have HT1b := Lib.hid (HT1.out.mod HM.out (fun _ _ _ h => h))
        refine step_append_any (by rfl) (.tmp 22) (.tmp 25) _ (by rfl) n 27 i1 _ 2 24 Try.underlying23 hi1 hy0 hy1 hy2 rfl (by omega) (.slice (some ⟨b22, 0, none⟩) 0 0) 0 ([]) (by rfl) O22.out (.slice ao k c) (l.take k).length (enC (l.take k)) (by rfl) (by have := HT1b.out.cells; exact this) ?_ ?_ (by unfold maxLen; omega) (by omega) ?_ ?_
        · rw [enC_len]
        · exact enC_one _
        · exact HGE.out
        intro v26 w4 hown hgr _
        rw [Nat.zero_add, List.nil_append, HTL.out] at hown
        have O26 := Lib.hid hown
        have HM' : Hid (Mod nob wc w4) := mod_grown HM.out hgr (fun k hk => by have := own_ge O22.out k hk; have := HN.out; omega)
        have H28' : Hid (w4.heap[b28]? = some (.cells #[.string nm, .int .i64 ino] 27 (0, 0))) := (mod_of_grown hgr).heap H28.out (fun h => HNE.out (by simpa [Value.ownBlock] using h.symm))
        clear H28
        have H28 := H28'
        clear H28'
        have HGE' : Hid (n ≤ w4.heap.size) := by rw [HN.out]; exact HM'.out.size
        clear hown hgr
        change K (Act.put _ (some 26) _) _
        simp only [Act.put, List.setIfInBounds_toArray, List.set_cons_zero, List.set_cons_succ]
        refine hK.out _ _ (HXSH.out _ HM'.out) (fun hHeld2 => ?_)
        clear hK K
        try simp only [Act.put, List.setIfInBounds_toArray, List.set_cons_zero, List.set_cons_succ]
        clear HM HGE
        have HM := HM'
        have HGE := HGE'
        clear HM' HGE'
        refine wpAnyH_ready (rs := [7]) (by kernel_rfl) (by simp) ?_
        refine AllReadyH.cons rfl (fun K hK => ?_) AllReadyH.nil
        refine step_append_any (by rfl) (.tmp 26) (.tmp 28) _ (by rfl) n 27 i1 _ 2 24 Try.underlying23 hi1 hy0 hy1 hy2 rfl (by omega) v26 k (enC (l.take k)) (by rfl) O26.out (.slice (some ⟨b28, 0, none⟩) 1 1) 1 ([Value.string nm, .int .i64 ino]) (by rfl) (HoldsC.block (cs := #[.string nm, .int .i64 ino]) (t := 27) (fr := (0, 0)) H28.out (by unfold maxLen; omega)) ?_ ?_ (by unfold maxLen; omega) (by omega) ?_ ?_
        · rfl
        · intro u hu; simp only [List.mem_cons, List.not_mem_nil, or_false] at hu; rcases hu with rfl | rfl <;> rfl
        · exact HGE.out
        intro v29 w5 hown hgr _
        have HM5 : Hid (Mod nob wc w5) := mod_grown HM.out hgr (fun k hk => by have := own_ge O26.out k hk; have := HN.out; omega)
        have O29 := Lib.hid hown
        have HT2b := Lib.hid (HT2.out.mod HM5.out (fun _ _ _ h => h))
        have HGE5 : Hid (n ≤ w5.heap.size) := by rw [HN.out]; exact HM5.out.size
        clear hown hgr
        change K (Act.put _ (some 29) _) _
        simp only [Act.put, List.setIfInBounds_toArray, List.set_cons_zero, List.set_cons_succ]
        refine hK.out _ _ (HXSH.out _ HM5.out) (fun hHeld2 => ?_)
        clear hK K
        try simp only [Act.put, List.setIfInBounds_toArray, List.set_cons_zero, List.set_cons_succ]
        refine wpAnyH_ready (rs := [11]) (by kernel_rfl) (by simp) ?_
        refine AllReadyH.cons rfl (fun K hK => ?_) AllReadyH.nil
        refine step_append_any (by rfl) (.tmp 29) (.tmp 32) _ (by rfl) n 27 i1 _ 2 24 Try.underlying23 hi1 hy0 hy1 hy2 rfl (by omega) v29 (k + 1) (enC (l.take k) ++ [Value.string nm, .int .i64 ino]) (by rfl) O29.out tv (l.drop k).length (enC (l.drop k)) (by rfl) HT2b.out.cells ?_ ?_ (by unfold maxLen; omega) (by omega) ?_ ?_
        · rw [enC_len]
        · exact enC_one _
        · exact HGE5.out
        intro v33 w6 hown hgr _
        have HM6 : Hid (Mod nob wc w6) := mod_grown HM5.out hgr (fun k hk => by have := own_ge O29.out k hk; have := HN.out; omega)
        rw [HC1.out, show k + 1 + (l.drop k).length = L + 1 by rw [List.length_drop, ← HL.out]; omega] at hown
        have O33 := Lib.hid hown
        clear hown hgr
        change K (Act.put _ (some 33) _) _
        simp only [Act.put, List.setIfInBounds_toArray, List.set_cons_zero, List.set_cons_succ]
        refine hK.out _ _ (HXSH.out _ HM6.out) (fun hHeld2 => ?_)
        clear hK K
        try simp only [Act.put, List.setIfInBounds_toArray, List.set_cons_zero, List.set_cons_succ]
        refine wpAnyH_take (i := 12) (v := v33) rfl (by kernel_rfl) (by kernel_rfl) (by kernel_rfl) (fun _ _ _ h => h) (Or.inl ⟨by rfl, ?_⟩) hHeld2 ?_
        case refine_1 =>
          rintro wx -
          go_simp
        change wpAnyH _ _ _ _ _ _ _ (Act.put _ (some 4) _) _
        simp only [Act.put, List.setIfInBounds_toArray, List.set_cons_zero, List.set_cons_succ]
        refine wpAnyH_done (by kernel_rfl) ?_ _
        refine NoPanic.normal ?_
        clear hHeld hHeld2
        obtain ⟨va, vc, rfl, -, -, -⟩ := own_shape O33.out
        go_wp2_with fail
        go_ret
        refine ⟨_, rfl, ?_, ?_⟩
        · have := own_base O33.out (show w.heap.size ≤ n by have h1 := HSZ.out; have h2 := HMO.out.size; have h3 := HN.out; have h4 := HBB.out; omega)
          exact this
        · have h1 : Below w.heap.size w w0 := by rw [← HBB.out]; exact HBW.out
          have h2 : w.heap.size < w0.heap.size := by rw [← HBB.out]; exact HSZ.out
          exact (h1.trans ((nob_mod_below HMO.out).mono (by omega))).trans ((nob_mod_below HM6.out).mono (by have := HMO.out.size; omega))
    · go_simp
      obtain ⟨b28, hb28⟩ : ∃ b, b = wd.heap.size := ⟨_, rfl⟩
      have HM' : Hid (Mod nob wc (wd.alloc (.cells #[.string nm, .int .i64 ino] 27))) := HM.out.alloc _
      have H28 : Hid ((wd.alloc (.cells #[.string nm, .int .i64 ino] 27)).heap[b28]? = some (.cells #[.string nm, .int .i64 ino] 27 (0, 0))) := by unfold Hid; rw [hb28]; exact heap_alloc_new _ _
      have HL28 : Hid (b28 < (wd.alloc (.cells #[.string nm, .int .i64 ino] 27)).heap.size) := by unfold Hid; rw [hb28]; simp
      have HGE' : Hid (n ≤ (wd.alloc (.cells #[.string nm, .int .i64 ino] 27)).heap.size) := by rw [HN.out]; exact HM'.out.size
      rw [← hb28]
      refine hK.out _ _ (HXSH.out _ HM'.out) (fun hHeld2 => ?_)
      clear hK K
      try simp only [Act.put, List.setIfInBounds_toArray, List.set_cons_zero, List.set_cons_succ]
      clear hb28 HM HGE
      have HM := HM'
      have HGE := HGE'
      clear HM' HGE'
      generalize wd.alloc (.cells #[.string nm, .int .i64 ino] 27) = wa at *
      refine wpAnyH_ready (rs := [0]) (by kernel_rfl) (by simp) ?_
      refine AllReadyH.cons rfl (fun K hK => ?_) AllReadyH.nil
      go_simp
      obtain ⟨b22, hb22⟩ : ∃ b, b = wa.heap.size := ⟨_, rfl⟩
      have HM' : Hid (Mod nob wc (wa.alloc (.cells #[] 27))) := HM.out.alloc _
      have hx22 : (wa.alloc (.cells #[] 27)).heap[b22]? = some (.cells #[] 27 (0, 0)) := by rw [hb22]; exact heap_alloc_new _ _
      have O22 : Hid ((wa.alloc (.cells #[] 27)).ownsRow n 27 2 (.slice (some ⟨b22, 0, none⟩) 0 0) 0 []) := own_block hx22 (by rw [hb22]; exact HGE.out) (Nat.zero_le _) rfl
      have HL22 : Hid (b22 < (wa.alloc (.cells #[] 27)).heap.size) := by unfold Hid; rw [hb22]; simp
      have H28' : Hid ((wa.alloc (.cells #[] 27)).heap[b28]? = some (.cells #[.string nm, .int .i64 ino] 27 (0, 0))) := ((Mod.refl nob wa).alloc _).heap H28.out (fun h => h)
      clear H28
      have H28 := H28'
      clear H28'
      have HNE : Hid (b28 ≠ b22) := by unfold Hid; rw [hb22]; exact Nat.ne_of_lt HL28.out
      have HGE' : Hid (n ≤ (wa.alloc (.cells #[] 27)).heap.size) := by rw [HN.out]; exact HM'.out.size
      rw [← hb22]
      refine hK.out _ _ (HXSH.out _ HM'.out) (fun hHeld2 => ?_)
      clear hK K
      try simp only [Act.put, List.setIfInBounds_toArray, List.set_cons_zero, List.set_cons_succ]
      clear hb22 hx22 HM HGE
      have HM := HM'
      have HGE := HGE'
      clear HM' HGE'
      generalize wa.alloc (.cells #[] 27) = wb at *
      refine wpAnyH_ready (rs := [4]) (by kernel_rfl) (by simp) ?_
      refine AllReadyH.cons rfl (fun K hK => ?_) AllReadyH.nil
      have HT1b := Lib.hid (HT1.out.mod HM.out (fun _ _ _ h => h))
      refine step_append_any (by rfl) (.tmp 22) (.tmp 25) _ (by rfl) n 27 i1 _ 2 24 Try.underlying23 hi1 hy0 hy1 hy2 rfl (by omega) (.slice (some ⟨b22, 0, none⟩) 0 0) 0 ([]) (by rfl) O22.out (.slice ao k c) (l.take k).length (enC (l.take k)) (by rfl) (by have := HT1b.out.cells; exact this) ?_ ?_ (by unfold maxLen; omega) (by omega) ?_ ?_
      · rw [enC_len]
      · exact enC_one _
      · exact HGE.out
      intro v26 w4 hown hgr _
      rw [Nat.zero_add, List.nil_append, HTL.out] at hown
      have O26 := Lib.hid hown
      have HM' : Hid (Mod nob wc w4) := mod_grown HM.out hgr (fun k hk => by have := own_ge O22.out k hk; have := HN.out; omega)
      have H28' : Hid (w4.heap[b28]? = some (.cells #[.string nm, .int .i64 ino] 27 (0, 0))) := (mod_of_grown hgr).heap H28.out (fun h => HNE.out (by simpa [Value.ownBlock] using h.symm))
      clear H28
      have H28 := H28'
      clear H28'
      have HGE' : Hid (n ≤ w4.heap.size) := by rw [HN.out]; exact HM'.out.size
      clear hown hgr
      change K (Act.put _ (some 26) _) _
      simp only [Act.put, List.setIfInBounds_toArray, List.set_cons_zero, List.set_cons_succ]
      refine hK.out _ _ (HXSH.out _ HM'.out) (fun hHeld2 => ?_)
      clear hK K
      try simp only [Act.put, List.setIfInBounds_toArray, List.set_cons_zero, List.set_cons_succ]
      clear HM HGE
      have HM := HM'
      have HGE := HGE'
      clear HM' HGE'
      refine wpAnyH_ready (rs := [7]) (by kernel_rfl) (by simp) ?_
      refine AllReadyH.cons rfl (fun K hK => ?_) AllReadyH.nil
      refine step_append_any (by rfl) (.tmp 26) (.tmp 28) _ (by rfl) n 27 i1 _ 2 24 Try.underlying23 hi1 hy0 hy1 hy2 rfl (by omega) v26 k (enC (l.take k)) (by rfl) O26.out (.slice (some ⟨b28, 0, none⟩) 1 1) 1 ([Value.string nm, .int .i64 ino]) (by rfl) (HoldsC.block (cs := #[.string nm, .int .i64 ino]) (t := 27) (fr := (0, 0)) H28.out (by unfold maxLen; omega)) ?_ ?_ (by unfold maxLen; omega) (by omega) ?_ ?_
      · rfl
      · intro u hu; simp only [List.mem_cons, List.not_mem_nil, or_false] at hu; rcases hu with rfl | rfl <;> rfl
      · exact HGE.out
      intro v29 w5 hown hgr _
      have HM5 : Hid (Mod nob wc w5) := mod_grown HM.out hgr (fun k hk => by have := own_ge O26.out k hk; have := HN.out; omega)
      have O29 := Lib.hid hown
      have HT2b := Lib.hid (HT2.out.mod HM5.out (fun _ _ _ h => h))
      have HGE5 : Hid (n ≤ w5.heap.size) := by rw [HN.out]; exact HM5.out.size
      clear hown hgr
      change K (Act.put _ (some 29) _) _
      simp only [Act.put, List.setIfInBounds_toArray, List.set_cons_zero, List.set_cons_succ]
      refine hK.out _ _ (HXSH.out _ HM5.out) (fun hHeld2 => ?_)
      clear hK K
      try simp only [Act.put, List.setIfInBounds_toArray, List.set_cons_zero, List.set_cons_succ]
      refine wpAnyH_ready (rs := [11]) (by kernel_rfl) (by simp) ?_
      refine AllReadyH.cons rfl (fun K hK => ?_) AllReadyH.nil
      refine step_append_any (by rfl) (.tmp 29) (.tmp 32) _ (by rfl) n 27 i1 _ 2 24 Try.underlying23 hi1 hy0 hy1 hy2 rfl (by omega) v29 (k + 1) (enC (l.take k) ++ [Value.string nm, .int .i64 ino]) (by rfl) O29.out tv (l.drop k).length (enC (l.drop k)) (by rfl) HT2b.out.cells ?_ ?_ (by unfold maxLen; omega) (by omega) ?_ ?_
      · rw [enC_len]
      · exact enC_one _
      · exact HGE5.out
      intro v33 w6 hown hgr _
      have HM6 : Hid (Mod nob wc w6) := mod_grown HM5.out hgr (fun k hk => by have := own_ge O29.out k hk; have := HN.out; omega)
      rw [HC1.out, show k + 1 + (l.drop k).length = L + 1 by rw [List.length_drop, ← HL.out]; omega] at hown
      have O33 := Lib.hid hown
      clear hown hgr
      change K (Act.put _ (some 33) _) _
      simp only [Act.put, List.setIfInBounds_toArray, List.set_cons_zero, List.set_cons_succ]
      refine hK.out _ _ (HXSH.out _ HM6.out) (fun hHeld2 => ?_)
      clear hK K
      try simp only [Act.put, List.setIfInBounds_toArray, List.set_cons_zero, List.set_cons_succ]
      refine wpAnyH_take (i := 12) (v := v33) rfl (by kernel_rfl) (by kernel_rfl) (by kernel_rfl) (fun _ _ _ h => h) (Or.inl ⟨by rfl, ?_⟩) hHeld2 ?_
      case refine_1 =>
        rintro wx -
        go_simp
      change wpAnyH _ _ _ _ _ _ _ (Act.put _ (some 4) _) _
      simp only [Act.put, List.setIfInBounds_toArray, List.set_cons_zero, List.set_cons_succ]
      refine wpAnyH_done (by kernel_rfl) ?_ _
      refine NoPanic.normal ?_
      clear hHeld hHeld2
      obtain ⟨va, vc, rfl, -, -, -⟩ := own_shape O33.out
      go_wp2_with fail
      go_ret
      refine ⟨_, rfl, ?_, ?_⟩
      · have := own_base O33.out (show w.heap.size ≤ n by have h1 := HSZ.out; have h2 := HMO.out.size; have h3 := HN.out; have h4 := HBB.out; omega)
        exact this
      · have h1 : Below w.heap.size w w0 := by rw [← HBB.out]; exact HBW.out
        have h2 : w.heap.size < w0.heap.size := by rw [← HBB.out]; exact HSZ.out
        exact (h1.trans ((nob_mod_below HMO.out).mono (by omega))).trans ((nob_mod_below HM6.out).mono (by have := HMO.out.size; omega))
end Go.Proofs.Ytlopdbhjdijlmaa
