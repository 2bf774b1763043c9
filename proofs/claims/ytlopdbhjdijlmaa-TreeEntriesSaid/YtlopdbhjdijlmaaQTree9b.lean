/-
  tree.Without, imagoref09.Find: contracts. No condition but the bounds that are typed.
-/
import Derived.Test.YtlopdbhjdijlmaaQTree9

namespace Go.Proofs.Ytlopdbhjdijlmaa
open Go.ChangeShapes Go.WideShapes Go.ChangeAt Go.RowKit
set_option linter.unusedSimpArgs false
set_option linter.unusedVariables false

/-- What the reference finds, from one on. -/
def refFrom (l : List En) (t : ByteArray) : Nat → Nat → Int
  | _, 0 => -1
  | k, f + 1 => if eqN (l.getD k default).name t then (l.getD k default).ino else refFrom l t (k + 1) f

set_option maxRecDepth 20000 in
set_option maxHeartbeats 1000000 in
theorem refFind9 {w : World} {lv : Value} {l : List En} (t : ByteArray) (hl : HoldsE w lv l) (hb : l.length ≤ 1000) :
    Calls Try.prog 12 #[lv, .string t] w fun e w' => e = .returned (.int .i64 (refFrom l t 0 l.length)) ∧ w = w' := by
  have HL := Lib.hid hl
  obtain ⟨ao, c, rfl, hlc, hcm, -, hcell0⟩ := hl
  obtain ⟨n, hn⟩ : ∃ n, n = l.length := ⟨_, rfl⟩
  rw [← hn] at HL hb hlc hcell0 ⊢
  have hcell := Lib.hid hcell0
  unfold maxLen at hcm
  clear hn hcell0
  go_enter Try.func12, Try.ntmps12
  go_wp2
  go_loopg [5] n (fun gk i wr => ∃ (k : Nat), k + gk = n ∧ i = .int .i64 k ∧ Hid (refFrom l t 0 n = refFrom l t k gk) ∧ w = wr)
  case atStart => exact ⟨0, by omega, rfl, rfl, rfl⟩
  case round =>
    obtain ⟨k, hk, rfl, HE, rfl⟩ := hrel
    by_cases hlt : k < n
    · obtain ⟨g, o, rfl, e1, e2⟩ := hcell.out k hlt
      obtain ⟨gm, hgm⟩ : ∃ gm, gk = gm + 1 := ⟨gk - 1, by omega⟩
      have hE := HE.out
      rw [hgm] at hE
      simp only [refFrom] at hE
      generalize l.getD k default = x at e1 e2 hE
      obtain ⟨nm, ino⟩ := x
      simp only at e1 e2 hE
      cases hp0 : eqN nm t with
      | false =>
        rw [hp0] at hE
        have HE2 := Lib.hid hE
        have hp : (nm.toList == t.toList) = false := hp0
        clear hE hp0
        go_wp2
        go_roundg gm
        case measure => omega
        case rel => exact ⟨k + 1, by omega, by go_num, HE2.out, rfl⟩
      | true =>
        rw [hp0] at hE
        have HE2 := Lib.hid hE
        have hp : (nm.toList == t.toList) = true := hp0
        clear hE hp0
        go_wp2
        go_ret
        rw [HE2.out]
        exact ⟨rfl, rfl⟩
    · obtain rfl : k = n := by omega
      obtain rfl : gk = 0 := by omega
      go_wp2
      go_ret
      rw [HE.out]
      exact ⟨rfl, rfl⟩

set_option maxRecDepth 20000 in
set_option maxHeartbeats 4000000 in
theorem without9 {w : World} {n : Ino} {ev : Value} (t : ByteArray) (hn : n.bl.length = 13) (he : HoldsE w ev n.ents) (hl : n.ents.length ≤ 1000) :
    Calls Try.prog 15 #[.agg (inoA n ev), .string t] w fun e w' => ∃ v', e = .returned (.agg (inoA (entsI n (dropE n.ents t)) v')) ∧ w'.ownsRow w.heap.size 27 2 v' (dropE n.ents t).length (enC (dropE n.ents t)) ∧ Below w.heap.size w w' := by
  have hb1 : InoB (((w.alloc (.cells (inoA n ev) 25)).alloc (.cells #[.string t] 9)).alloc (.cells z18 25)) w.heap.size n ev := ((InoB.new w hn ev).mod ((Mod.refl nob _).alloc _) (fun h => h)).mod ((Mod.refl nob _).alloc _) (fun h => h)
  have hb2 : (((w.alloc (.cells (inoA n ev) 25)).alloc (.cells #[.string t] 9)).alloc (.cells z18 25)).heap[w.heap.size + 1]? = some (.cells #[.string t] 9 (0, 0)) := ((Mod.refl nob _).alloc _).heap (heap_new1 w _ _) (fun h => h)
  have hb3 : InoB (((w.alloc (.cells (inoA n ev) 25)).alloc (.cells #[.string t] 9)).alloc (.cells z18 25)) (w.heap.size + 2) ino0 (.slice none 0 0) := by
    have := inoB_lit0 (f := 0) (k := 0) (l := 0) (s := 0) (ev := .slice none 0 0) (heap_alloc_new ((w.alloc (.cells (inoA n ev) 25)).alloc (.cells #[.string t] 9)) (.cells z18 25))
    rw [show ((w.alloc (.cells (inoA n ev) 25)).alloc (.cells #[.string t] 9)).heap.size = w.heap.size + 2 by simp] at this
    exact this
  have HM0 : Hid (Mod nob w (((w.alloc (.cells (inoA n ev) 25)).alloc (.cells #[.string t] 9)).alloc (.cells z18 25))) := (((Mod.refl nob w).alloc _).alloc _).alloc _
  have HZ0 : Hid ((((w.alloc (.cells (inoA n ev) 25)).alloc (.cells #[.string t] 9)).alloc (.cells z18 25)).heap.size = w.heap.size + 3) := by unfold Hid; simp
  have HE := Lib.hid (he.mod HM0.out (fun _ _ _ h => h))
  have HCL := Lib.hid (clone_any HE.out hl)
  have HDL := fun wx base v (hown : World.ownsRow wx base 27 2 v n.ents.length (enC n.ents)) hbase (q : Nat) (hq : wx.cell? ⟨q, 0, none⟩ = some (.string t)) hne => Lib.hid (delete9 hl hown hbase hq hne)
  obtain ⟨R, hR⟩ : ∃ R, R = dropE n.ents t := ⟨_, rfl⟩
  rw [← hR]
  rw [← hR] at HDL
  obtain ⟨ao, c, rfl, e1, e2, -, -⟩ := he
  obtain ⟨L, hL⟩ : ∃ L, L = n.ents.length := ⟨_, rfl⟩
  obtain ⟨B, hB⟩ : ∃ B, B = w.heap.size := ⟨_, rfl⟩
  rw [← hL] at e1 hl HE HCL hb1 hb2 hb3 HM0 HZ0 ⊢
  rw [← hL] at HDL
  rw [← hB] at hb1 hb2 hb3 HZ0 ⊢
  have HL := Lib.hid hL
  have HBB := Lib.hid hB
  clear hR hL
  go_enter Try.func15, Try.ntmps15
  go_upto_region 1 with (fail)
  rw [← hB]
  generalize ((w.alloc (.cells (inoA n (.slice ao L c)) 25)).alloc (.cells #[.string t] 9)).alloc (.cells z18 25) = w0 at *
  clear hB
  have cv : w0.cell? ⟨B, 17, none⟩ = some (.slice ao L c) := by
    have := hb1.at.ev
    rwa [Nat.zero_add] at this
  have HB1 := Lib.hid hb1
  have HB2 := Lib.hid hb2
  have HB3 := Lib.hid hb3
  have HN13 := Lib.hid hn
  clear hb1 hb2 hb3 hn
  unfold maxLen at e2
  have HDE : Hid (∀ w2 v2, w2.ownsRow w0.heap.size 27 2 v2 L (enC n.ents) → Below w0.heap.size w0 w2 → Calls Try.prog 50 #[v2, .func (.func 51) #[] #[.pointer (some ⟨B + 1, 0, none⟩)]] w2 fun e w' => ∃ ao5 c5, e = .returned (.slice ao5 R.length c5) ∧ w'.ownsRow (B + 3) 27 2 (.slice ao5 R.length c5) R.length (enC R) ∧ InoB w' B n (.slice ao L c) ∧ InoB w' (B + 2) ino0 (.slice none 0 0) ∧ Mod nob w w') := fun w2 v2 ho2 hb2 => by
    have hz := HZ0.out
    have hge := own_ge ho2
    have hq2 : w2.cell? ⟨B + 1, 0, none⟩ = some (.string t) := by
      rw [cell_of_row _ _ _ _ _ _ ((mod_of_below hb2).heap HB2.out (fun h => h))]; rfl
    refine (HDL w2 (B + 3) v2 (own_mono ho2 (by omega)) (by have := hb2.size; omega) (B + 1) hq2 (fun e => by have := hge _ e; omega)).out.mono ?_
    rintro e w' ⟨v5, rfl, ho5, hm5⟩
    obtain ⟨ao5, c5, rfl, -⟩ := holdsE_of_own rfl ho5
    refine ⟨ao5, c5, rfl, ho5, (HB1.out.mod (mod_of_below hb2) (fun h => h)).mod hm5 (fun e => by have := hge _ e; omega), (HB3.out.mod (mod_of_below hb2) (fun h => h)).mod hm5 (fun e => by have := hge _ e; omega), ?_⟩
    exact (HM0.out.step (mod_of_below hb2) (fun _ h => h)).trans (hm5.mono (fun q hq e => .inr ⟨by have := hge _ e; have := HBB.out; omega, hq⟩))
  clear HDL HB2 HB1 HB3 HM0
  go_upto_region 2 with (first
    | (go_at_call 48; (with_reducible refine HCL.out.mono ?_); (rintro e w2 ⟨v2, rfl, ho2, hb2⟩; obtain ⟨ao2, c2, hv2, -⟩ := holdsE_of_own HL.out ho2; rw [← HL.out] at hv2; subst hv2; have HD2 := Lib.hid (HDE.out _ _ ho2 hb2); clear ho2 hb2))
    | (go_at_call 50; (with_reducible refine HD2.out.mono ?_); (rintro e w5 ⟨ao5, c5, rfl, ho5, hi5, hn5, hm5⟩; have HO5 := Lib.hid ho5; have HI5 := Lib.hid hi5; have HN5 := Lib.hid hn5; have HM5 := Lib.hid hm5; have cv5 := HI5.out.at.ev; have fz5 := HI5.out.frozen 17; clear ho5 hi5 hn5 hm5)))
  have HI4 : Hid (InoB (w5.setCell ⟨B, 17, none⟩ (.slice ao5 R.length c5)) B n (.slice ao5 R.length c5)) := HI5.out.setEv n.ents _
  have HMS : Hid (Mod (fun q => q = B) w5 (w5.setCell ⟨B, 17, none⟩ (.slice ao5 R.length c5))) := (Mod.refl (fun q => q = B) w5).setCell (a := ⟨B, 17, none⟩) (.inl rfl) _
  have HO4 : Hid ((w5.setCell ⟨B, 17, none⟩ (.slice ao5 R.length c5)).ownsRow (B + 3) 27 2 (.slice ao5 R.length c5) R.length (enC R)) := HMS.out.own HO5.out (fun g hg e => by have := own_ge HO5.out g hg; omega)
  have HM4 : Hid (Mod nob w (w5.setCell ⟨B, 17, none⟩ (.slice ao5 R.length c5))) := HM5.out.setCell (.inr (by rw [← HBB.out]; exact Nat.le_refl _)) _
  have HN4 : Hid (InoB (w5.setCell ⟨B, 17, none⟩ (.slice ao5 R.length c5)) (B + 2) ino0 (.slice none 0 0)) := HN5.out.mod HMS.out (by omega)
  clear HMS HO5 HM5 HN5 HI5 cv5 fz5 HCL HDE cv HE HD2
  generalize w5.setCell ⟨B, 17, none⟩ (.slice ao5 R.length c5) = wc at *
  obtain ⟨ao4, hao4⟩ : ∃ a, a = ao5 := ⟨_, rfl⟩
  obtain ⟨c4, hc4⟩ : ∃ a, a = c5 := ⟨_, rfl⟩
  rw [← hao4, ← hc4] at HI4 HO4 ⊢
  clear hao4 hc4
  obtain ⟨M, hM⟩ : ∃ M, M = R.length := ⟨_, rfl⟩
  rw [← hM] at HI4 HO4
  have HM := Lib.hid hM
  clear hM
  have cv4 : wc.cell? ⟨B, 17, none⟩ = some (.slice ao4 M c4) := by
    have := HI4.out.at.ev
    rwa [Nat.zero_add] at this
  have c3 : wc.cell? ⟨B, 3, none⟩ = some (.int .i64 n.size) := by
    have := HI4.out.at.c3
    rwa [Nat.zero_add] at this
  have fz3 := HI4.out.frozen 3
  have HI5 : Hid (InoB (wc.setCell ⟨B, 3, none⟩ (.int .i64 (M : Nat))) B (entsI n R) (.slice ao4 M c4)) := by
    have := HI4.out.setSize (M : Nat)
    unfold Hid entsI
    rw [← HM.out]
    exact ⟨this.1, this.2⟩
  have HMB : Hid (Mod (fun q => q = B) wc (wc.setCell ⟨B, 3, none⟩ (.int .i64 (M : Nat)))) := (Mod.refl (fun q => q = B) wc).setCell (a := ⟨B, 3, none⟩) (.inl rfl) _
  have HO5 : Hid ((wc.setCell ⟨B, 3, none⟩ (.int .i64 (M : Nat))).ownsRow (B + 3) 27 2 (.slice ao4 M c4) M (enC R)) := HMB.out.own HO4.out (fun g hg e => by have := own_ge HO4.out g hg; omega)
  have HM5 : Hid (Mod nob w (wc.setCell ⟨B, 3, none⟩ (.int .i64 (M : Nat)))) := HM4.out.setCell (.inr (by rw [← HBB.out]; exact Nat.le_refl _)) _
  have HN5 : Hid (InoB (wc.setCell ⟨B, 3, none⟩ (.int .i64 (M : Nat))) (B + 2) ino0 (.slice none 0 0)) := HN4.out.mod HMB.out (by omega)
  clear HO4 HM4 HN4 HMB
  go_upto_region 3 with (fail)
  generalize wc.setCell ⟨B, 3, none⟩ (.int .i64 (M : Nat)) = w5 at *
  have HEL : Hid ((entsI n R).bl.length = 13) := HN13.out
  have HRG := Lib.hid (HI5.out.at.range HEL.out)
  have hszA : (inoL (entsI n R) (.slice ao4 M c4)).toArray.size = 18 := by rw [List.size_toArray]; exact inoL_len HEL.out _
  have HISL : Hid ((Try.prog.info? 25).map (·.size) = some (inoL (entsI n R) (.slice ao4 M c4)).length) := by
    unfold Hid; rw [inoL_len HEL.out]; exact Try.info18
  have HISA : Hid ((Try.prog.info? 25).map (·.size) = some (inoL (entsI n R) (.slice ao4 M c4)).toArray.size) := by
    unfold Hid; rw [hszA]; exact Try.info18
  have HTH : Hid (w5.there (B + 1 + 1) 0 (inoL (entsI n R) (.slice ao4 M c4)).toArray.size) := by
    unfold Hid; rw [hszA]; exact HN5.out.there
  have HONE : Hid ((inoL (entsI n R) (.slice ao4 M c4)).toArray.all (·.oneCell') = true) := all_oneCell_toArray (inoL_one rfl)
  have HI6 := Lib.hid (HN5.out.whole (m := entsI n R) (ev' := (.slice ao4 M c4)) HEL.out)
  have HMB : Hid (Mod (fun q => q = B + 2) w5 (w5.setCells (B + 2) 0 (inoL (entsI n R) (.slice ao4 M c4)))) := Mod.setCells (D := fun q => q = B + 2) (B + 2) (.inl rfl) _ _ _ (Mod.refl _ w5)
  have HM6 : Hid (Mod nob w (w5.setCells (B + 2) 0 (inoL (entsI n R) (.slice ao4 M c4)))) := Mod.setCells (B + 2) (.inr (by have := HBB.out; omega)) _ _ _ HM5.out
  have HO6 : Hid ((w5.setCells (B + 2) 0 (inoL (entsI n R) (.slice ao4 M c4))).ownsRow (B + 3) 27 2 (.slice ao4 M c4) M (enC R)) := HMB.out.own HO5.out (fun g hg e => by have := own_ge HO5.out g hg; omega)
  clear hszA cv4 c3 fz3 HMB HO5 HM5 HI4 HN5
  go_cut [5] (fun _ wd => Hid (InoB wd (B + 2) (entsI n R) (.slice ao4 M c4)) ∧ Hid (Mod nob w wd) ∧ Hid (wd.ownsRow (B + 3) 27 2 (.slice ao4 M c4) M (enC R)))
  case first =>
    go_wp2_with (first
      | (with_reducible refine wpList_load_mid (op := ⟨some 15, _, _, _, _, _⟩) rfl 25 _ rfl B 0 rfl (inoL (entsI n R) (.slice ao4 M c4)) _ HRG.out Try.underlying25 rfl HISL.out ?_)
      | (with_reducible refine wpList_store_mid (op := ⟨none, _, _, _, _, _⟩) rfl 25 _ _ rfl (B + 1 + 1) 0 (inoL (entsI n R) (.slice ao4 M c4)).toArray rfl rfl HTH.out HISA.out HONE.out ?_))
    go_meet
    case rel => exact ⟨HI6.out, HM6.out, HO6.out⟩
  case rest =>
    obtain ⟨HIA, HME, HOE⟩ := hcut
    have hlv := run_loadVar_mid (P := Try.prog) wc (B + 1 + 1) 0 25 _ _ (HIA.out.at.range HEL.out) Try.underlying25 rfl HISL.out
    have HLV := Lib.hid hlv
    clear hlv
    go_wp2_with fail
    refine bodyPost_ret (v := .agg (inoL (entsI n R) (.slice ao4 M c4)).toArray) ?_ rfl ⟨_, rfl, ?_, ?_⟩
    · have hlv := HLV.out
      simp [results, Try.results15, asAddr, hlv]
    · rw [← HM.out]; exact own_mono HOE.out (by have := HBB.out; omega)
    · have := nob_mod_below HME.out
      rw [← HBB.out] at this
      exact this
end Go.Proofs.Ytlopdbhjdijlmaa
