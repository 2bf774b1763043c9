/-
  The law TreeEntries: the walk. No condition.
-/
import Derived.Test.YtlopdbhjdijlmaaQAwake9
import Derived.Test.YtlopdbhjdijlmaaQEqE9
import Derived.Test.YtlopdbhjdijlmaaQFew6
import Derived.Test.YtlopdbhjdijlmaaQRefRight
import Derived.StillTailTactics

namespace Go.Proofs.Ytlopdbhjdijlmaa
open Go.ChangeShapes Go.WideShapes Go.ChangeAt Go.RowKit
set_option linter.unusedSimpArgs false
set_option linter.unusedVariables false

theorem sort_right {n : Ino} (h : DirOK n) : SortP n.ents := by
  have hstep : ∀ k, k + 1 < n.ents.length → ltE (n.ents.getD k default) (n.ents.getD (k + 1) default) = true := fun k hk => by
    have he := (h.1 (k + 1) hk).2.1
    have hp : prevN n.ents (k + 1) = (n.ents.getD k default).name := by unfold prevN; rw [if_neg (by omega)]; rfl
    rw [hp] at he
    unfold leS at he
    rw [Bool.or_eq_false_iff] at he
    exact blq_total he.1 he.2
  refine sortP_of (fun i j hij hj => ?_)
  obtain ⟨d, rfl⟩ : ∃ d, j = i + 1 + d := ⟨j - i - 1, by omega⟩
  clear hij
  induction d with
  | zero => exact hstep i hj
  | succ d ih => exact blq_trans (ih (by omega)) (hstep (i + 1 + d) hj)

set_option maxRecDepth 20000 in
set_option maxHeartbeats 16000000 in
theorem law_entries {w : World} {n : Ino} {ev : Value} {x : En} (hn : n.Ok) (he : HoldsE w ev n.ents) (hx : x.Ok) :
    Calls Try.prog 3 #[.agg (inoA n ev), .agg #[.string x.name, .int .i64 x.ino]] w fun e w' => e = .returned (.bool true) ∧ Below w.heap.size w w' := by
  obtain ⟨i1, hi1, hy0, hy1, hy2⟩ := info_parts Try.infoEntry9
  have HNO := Lib.hid hn
  have hx1 := hx.ino
  obtain ⟨nm, ino⟩ := x
  dsimp only at hx1 ⊢
  have HBEL : Hid (Below w.heap.size w ((w.alloc (.cells (inoA n ev) 25)).alloc (.cells #[.string nm, .int .i64 ino] 27))) := ((Below.refl _ _).alloc (Nat.le_refl _) _).alloc (by simp) _
  have HA0 : Hid (InoB ((w.alloc (.cells (inoA n ev) 25)).alloc (.cells #[.string nm, .int .i64 ino] 27)) w.heap.size n ev) := (InoB.new w hn.len ev).mod ((Mod.refl nob _).alloc _) (fun h => h)
  have HX0 : Hid (((w.alloc (.cells (inoA n ev) 25)).alloc (.cells #[.string nm, .int .i64 ino] 27)).heap[w.heap.size + 1]? = some (.cells #[.string nm, .int .i64 ino] 27 (0, 0))) := heap_new1 w _ _
  have hz0 : ((w.alloc (.cells (inoA n ev) 25)).alloc (.cells #[.string nm, .int .i64 ino] 27)).heap.size = w.heap.size + 2 := by simp
  have HE := Lib.hid (he.below HBEL.out)
  have HLE : Hid (n.ents ≠ [] → ∀ g, ev.ownBlock = some g → g < w.heap.size) := he.lt
  obtain ⟨ea, ec, rfl, e1, e2, -, -⟩ := he
  obtain ⟨n0, hn0⟩ : ∃ n0, n0 = w.heap.size := ⟨_, rfl⟩
  rw [← hn0] at HA0 HX0 hz0
  have HZ := Lib.hid hz0
  have HN0 := Lib.hid hn0
  obtain ⟨L, hL⟩ : ∃ L, L = n.ents.length := ⟨_, rfl⟩
  have HL := Lib.hid hL
  rw [← hL] at HBEL HA0 HX0 HE HLE e1 HZ ⊢
  unfold maxLen at e2
  clear hz0 hL hx hn
  have HAW : Hid (∀ wx, Calls Try.prog 9 #[] wx fun e w' => e = .returned (.bool true) ∧ Below wx.heap.size wx w') := fun wx => awake9 wx
  obtain ⟨bf, hbf⟩ : ∃ b, b = fewB n := ⟨_, rfl⟩
  obtain ⟨br, hbr⟩ : ∃ b, b = rightB n := ⟨_, rfl⟩
  go_enter Try.func3, Try.ntmps3
  go_upto_region 1 with (fail)
  rw [← hn0]
  generalize (w.alloc (.cells (inoA n (.slice ea L ec)) 25)).alloc (.cells #[.string nm, .int .i64 ino] 27) = w0 at *
  clear hn0
  have HFA : Hid (∀ wx, Mod nob w0 wx → Calls Try.prog 10 #[.agg (inoL n (.slice ea L ec)).toArray] wx fun e w' => e = .returned (.bool bf) ∧ Below wx.heap.size wx w') := fun wx hm => by
    rw [hbf]
    exact few6 HNO.out (HE.out.mod hm (fun _ _ _ h => h))
  have HRI : Hid (∀ wx, Mod nob w0 wx → Calls Try.prog 11 #[.agg (inoL n (.slice ea L ec)).toArray] wx fun e w' => e = .returned (.bool br) ∧ Below wx.heap.size wx w') := fun wx hm => by
    rw [hbr]
    exact ref_right HNO.out (HE.out.mod hm (fun _ _ _ h => h))
  have HBR := Lib.hid hbr
  clear hbf hbr
  have HSA : Hid ((Try.prog.info? 25).map (·.size) = some (inoL n (.slice ea L ec)).length) := by unfold Hid; rw [inoL_len HNO.out.len]; exact Try.info18
  have HX : Hid (Mod nob w0 w0) := Mod.refl nob w0
  have HRA := Lib.hid (HA0.out.at.range HNO.out.len)
  have x0 : w0.cell? ⟨n0 + 1, 0, none⟩ = some (.string nm) := by rw [cell_of_row _ _ _ _ _ _ HX0.out]; rfl
  have c1 : w0.cell? ⟨n0, 1, none⟩ = some (.int .i64 n.kind) := by
    have := HA0.out.at.c1
    rwa [Nat.zero_add] at this
  by_cases hgo : bf = true ∧ nm.size ≤ 50 ∧ br = true ∧ n.kind = 2
  · obtain ⟨rfl, h50, rfl, hk2⟩ := hgo
    have h50d : decide ((50 : Int) < (nm.size : Int)) = false := decide_eq_false (by omega)
    rw [hk2] at c1
    go_upto_if 37 with (first
      | (go_at_call 9; (with_reducible refine (HAW.out _).mono ?_); (rintro e wz ⟨rfl, hbz⟩; have HX := Lib.hid (HX.out.step (mod_of_below hbz) (fun _ h => h)); have HRA := Lib.hid ((HA0.out.mod HX.out (fun h => h)).at.range HNO.out.len); have x0 := (mod_of_below hbz).cell x0 (fun h => h); have c1 := (mod_of_below hbz).cell c1 (fun h => h); clear hbz))
      | ((refine wpList_unguard (o := ⟨some 18, _, _, _, _, _⟩) (by rfl) ?_; with_reducible refine wpList_load_mid (op := ⟨some 18, _, _, _, _, _⟩) rfl 25 _ rfl n0 0 rfl (inoL n (.slice ea L ec)) _ HRA.out Try.underlying25 rfl HSA.out ?_))
      | (go_at_call 10; (with_reducible refine (HFA.out _ HX.out).mono ?_); (rintro e wz ⟨rfl, hbz⟩; have HX := Lib.hid (HX.out.step (mod_of_below hbz) (fun _ h => h)); have HRA := Lib.hid ((HA0.out.mod HX.out (fun h => h)).at.range HNO.out.len); have x0 := (mod_of_below hbz).cell x0 (fun h => h); have c1 := (mod_of_below hbz).cell c1 (fun h => h); clear hbz))
      | ((refine wpList_unguard (o := ⟨some 29, _, _, _, _, _⟩) (by rfl) ?_; with_reducible refine wpList_load_mid (op := ⟨some 29, _, _, _, _, _⟩) rfl 25 _ rfl n0 0 rfl (inoL n (.slice ea L ec)) _ HRA.out Try.underlying25 rfl HSA.out ?_))
      | (go_at_call 11; (with_reducible refine (HRI.out _ HX.out).mono ?_); (rintro e wz ⟨rfl, hbz⟩; have HX := Lib.hid (HX.out.step (mod_of_below hbz) (fun _ h => h)); have HRA := Lib.hid ((HA0.out.mod HX.out (fun h => h)).at.range HNO.out.len); have x0 := (mod_of_below hbz).cell x0 (fun h => h); have c1 := (mod_of_below hbz).cell c1 (fun h => h); clear hbz)))
    obtain ⟨w1, hw1⟩ : ∃ x : World, x = wz := ⟨_, rfl⟩
    rw [← hw1] at HX x0 c1 HRA ⊢
    clear hw1
    have HX1 := Lib.hid HX.out
    have X0 := Lib.hid x0
    have hR : RightP n := Classical.byContradiction fun h => by
      have h1 := rightB_false h
      have h2 := HBR.out
      rw [h1] at h2
      cases h2
    have hD : DirOK n := by
      rcases hR.2.2.2 with ⟨h, -⟩ | ⟨-, h⟩
      · omega
      · exact h
    have hL24 : L ≤ 24 := by have := hD.2.1; have := HL.out; omega
    have HSP : Hid (SortP n.ents) := sort_right hD
    have hnn : ∀ y ∈ n.ents, 0 ≤ y.ino := fun y hy => by
      obtain ⟨k, hk, rfl⟩ := List.getElem_of_mem hy
      have := (hD.1 k hk).2.2.1
      rw [List.getD_eq_getElem?_getD, List.getElem?_eq_getElem hk] at this
      exact this
    have HSE : Hid (SortE n.ents) := sortE_of HSP.out
    obtain ⟨A, D, C, hp⟩ := parts n.ents HSP.out nm
    have HPT := Lib.hid hp
    have hpr := hp.ref
    have hpn : hasE n.ents nm = true → 0 ≤ findE n.ents nm := fun h => by
      rcases hp.mid with ⟨-, y, hy, -, hf⟩ | ⟨h2, -⟩
      · rw [hf]
        exact hnn y (by rw [hp.eq, hy]; simp)
      · rw [h] at h2; cases h2
    have hln := hp.lens (x := ⟨nm, ino⟩) rfl
    have HRW : Hid (refL (withE n.ents ⟨nm, ino⟩) nm = ino) := hp.ref_with (x := ⟨nm, ino⟩) rfl
    have HDW : Hid (dropE (withE n.ents ⟨nm, ino⟩) nm = dropE n.ents nm) := hp.drop_with (x := ⟨nm, ino⟩) rfl
    have HSW : Hid (SortP (withE n.ents ⟨nm, ino⟩)) := hp.sorted HSP.out (x := ⟨nm, ino⟩) rfl
    have HFI := fun wx hm => Lib.hid (find9 (w := wx) nm HNO.out.len (HE.out.mod (D := nob) hm (fun _ _ _ h => h)) (by rw [← HL.out]; omega) HSE.out)
    have HRF := fun wx hm => Lib.hid (refFind9 (w := wx) nm (HE.out.mod (D := nob) hm (fun _ _ _ h => h)) (by rw [← HL.out]; omega))
    have HWI := fun wx hm => Lib.hid (with9 (w := wx) ⟨nm, ino⟩ HNO.out.len (HE.out.mod (D := nob) hm (fun _ _ _ h => h)) (by rw [← HL.out]; omega) HSE.out)
    have HWO := fun wx hm => Lib.hid (without9 (w := wx) nm HNO.out.len (HE.out.mod (D := nob) hm (fun _ _ _ h => h)) (by rw [← HL.out]; omega))
    obtain ⟨RW, hRW⟩ : ∃ R, R = withE n.ents ⟨nm, ino⟩ := ⟨_, rfl⟩
    obtain ⟨RD, hRD⟩ : ∃ R, R = dropE n.ents nm := ⟨_, rfl⟩
    obtain ⟨f, hf⟩ : ∃ f, f = hasE n.ents nm := ⟨_, rfl⟩
    obtain ⟨i, hi⟩ : ∃ i, i = findE n.ents nm := ⟨_, rfl⟩
    obtain ⟨at_, hat⟩ : ∃ a, a = refL n.ents nm := ⟨_, rfl⟩
    rw [ref_eq, ← hat] at HRF
    rw [← hi, ← hf] at HFI
    rw [← hRW] at HWI hln HRW HDW HSW
    rw [← hRD] at HWO HDW hln
    rw [← hf, ← hi, ← hat] at hpr
    rw [← hf, ← hi] at hpn
    rw [← hf, ← HL.out] at hln
    obtain ⟨SZ, hSZ⟩ : ∃ s, s = RW.length := ⟨_, rfl⟩
    rw [← hSZ] at hln
    have HSZ := Lib.hid hSZ
    have HRD := Lib.hid hRD
    have HPR := Lib.hid hpr
    have HPN := Lib.hid hpn
    obtain ⟨hl1, hl2⟩ := hln
    have HL1 := Lib.hid hl1
    have hSZ25 : SZ ≤ 25 := by
      rw [hl1]
      split <;> omega
    have HL2 := Lib.hid hl2
    clear hR hD hnn hp hpr hpn hRW hRD hf hi hat hSZ hl1 hl2 HBR HSE
    have c17 : w1.cell? ⟨n0, 17, none⟩ = some (.slice ea L ec) := by
      have := (HA0.out.mod HX1.out (fun h => h)).at.ev
      rwa [Nat.zero_add] at this
    have HM2 : Hid (Mod nob w1 (w1.alloc (.cells #[] 27))) := (Mod.refl nob w1).alloc _
    have c17b := HM2.out.cell c17 (fun h => h)
    have O0 : Hid ((w1.alloc (.cells #[] 27)).ownsRow w1.heap.size 27 2 (.slice (some ⟨w1.heap.size, 0, none⟩) 0 0) 0 []) := own_block (heap_alloc_new _ _) (Nat.le_refl _) (Nat.zero_le _) rfl
    have HC := Lib.hid ((HE.out.mod (HX1.out.step HM2.out (fun _ h => h)) (fun _ _ _ h => h)).cells)
    rw [← HL.out] at HC
    have HLN : Hid ((enC n.ents).length = L * 2) := by unfold Hid; rw [enC_len, ← HL.out]
    have HK63 : Hid (0 + L ≤ maxLen) := by unfold Hid maxLen; omega
    have HKB : Hid ((0 + L) * 24 ≤ 140737488355328) := by unfold Hid; omega
    have HGE : Hid (w1.heap.size ≤ (w1.alloc (.cells #[] 27)).heap.size) := HM2.out.size
    go_upto_region 4 with (with_reducible refine wpList_append_any (o := ⟨some 42, _, _, _, _, _⟩) rfl (.tmp 39) (.tmp 41) _ rfl w1.heap.size 27 i1 _ 2 24 Try.underlying23 hi1 hy0 hy1 hy2 rfl (by omega) (.slice (some ⟨w1.heap.size, 0, none⟩) 0 0) 0 ([]) rfl O0.out (.slice ea L ec) L (enC n.ents) rfl HC.out HLN.out (enC_one _) HK63.out HKB.out HGE.out ?_)
    intro v5 w2 hown hgr _
    have HX2 : Hid (Mod nob w0 w2) := HX1.out.step (mod_grown HM2.out hgr (fun k hk => by cases hk; exact Nat.le_refl _)) (fun _ h => h)
    have HM12 : Hid (Mod nob w1 w2) := mod_grown HM2.out hgr (fun k hk => by cases hk; exact Nat.le_refl _)
    have hww := holdsE_of_own HL.out (by simpa using hown)
    have HWAS := Lib.hid hww
    obtain ⟨wa, wcp, hv5, -⟩ := hww
    rw [← HL.out] at hv5
    subst hv5
    have HWASL : Hid (∀ g, (Value.slice wa L wcp).ownBlock = some g → n0 + 2 ≤ g) := fun g hg => by
      have := own_ge hown g hg
      have := HX1.out.size
      have := HZ.out
      omega
    clear hown hgr O0 HC HLN HK63 HKB HGE HM2 HX1 c17 c17b x0 c1 HRA
    have c17 : w2.cell? ⟨n0, 17, none⟩ = some (.slice ea L ec) := by
      have := (HA0.out.mod HX2.out (fun h => h)).at.ev
      rwa [Nat.zero_add] at this
    have x0 : w2.cell? ⟨n0 + 1, 0, none⟩ = some (.string nm) := HM12.out.cell X0.out (fun h => h)
    have HRA := Lib.hid ((HA0.out.mod HX2.out (fun h => h)).at.range HNO.out.len)
    have HRF2 := HRF w2 HX2.out
    have HFI2 : Hid (Calls Try.prog 13 #[.agg (inoL n (.slice ea L ec)).toArray, .string nm] w2 fun e w' => e = .returned (.tuple #[.int .i64 i, .bool f]) ∧ Below w2.heap.size w2 w') := HFI w2 HX2.out
    clear HRF HFI X0 HM12
    go_upto_region 6 with (first
      | (go_at_call 12; (with_reducible refine HRF2.out.mono ?_); (rintro e w' ⟨rfl, rfl⟩))
      | (with_reducible refine wpList_load_mid (op := ⟨some 49, _, _, _, _, _⟩) rfl 25 _ rfl n0 0 rfl (inoL n (.slice ea L ec)) _ HRA.out Try.underlying25 rfl HSA.out ?_)
      | (go_at_call 13; (with_reducible refine HFI2.out.mono ?_); (rintro e w3 ⟨rfl, hb3⟩)))
    have HX3 : Hid (Mod nob w0 w3) := HX2.out.step (mod_of_below hb3) (fun _ h => h)
    have HWAS3 := Lib.hid (HWAS.out.below hb3)
    clear hb3 c17 x0 HRA HRF2 HFI2 HWAS HX2
    go_cut [74] (fun v wc => v = .bool false ∧ w3 = wc)
    case first =>
      rcases HPR.out with ⟨rfl, rfl⟩ | ⟨rfl, rfl, rfl⟩
      · have h0 := HPN.out rfl
        have hd0 : decide (0 ≤ at_) = true := decide_eq_true h0
        go_wp2_with fail
        go_meet
        case rel => exact ⟨rfl, rfl⟩
      · go_wp2_with fail
        go_meet
        case rel => exact ⟨rfl, rfl⟩
    case rest =>
      obtain ⟨rfl, rfl⟩ := hcut
      have HN13 : Hid ((entsI n RW).bl.length = 13) := HNO.out.len
      have HWI3 : Hid (Calls Try.prog 14 #[.agg (inoL n (.slice ea L ec)).toArray, .agg #[.string nm, .int .i64 ino]] w3 fun e w' => ∃ ao c, e = .returned (.agg (inoL (entsI n RW) (.slice ao SZ c)).toArray) ∧ HoldsE w' (.slice ao SZ c) RW ∧ (∀ g, (Value.slice ao SZ c).ownBlock = some g → w3.heap.size ≤ g) ∧ Below w3.heap.size w3 w') := by
        refine (HWI w3 HX3.out).out.mono ?_
        rintro e w' ⟨v', rfl, ho, hb⟩
        have hh := holdsE_of_own rfl ho
        have hg := own_ge ho
        have hh2 := hh
        obtain ⟨ao, c, rfl, -⟩ := hh2
        rw [← HSZ.out] at hh hg ⊢
        exact ⟨ao, c, rfl, hh, hg, hb⟩
      have HRA := Lib.hid ((HA0.out.mod HX3.out (fun h => h)).at.range HNO.out.len)
      have HX03 := Lib.hid (HX0.out)
      have x0 : w3.cell? ⟨n0 + 1, 0, none⟩ = some (.string nm) := by rw [cell_of_row _ _ _ _ _ _ (HX3.out.heap HX0.out (fun h => h))]; rfl
      have x1 : w3.cell? ⟨n0 + 1, 1, none⟩ = some (.int .i64 ino) := by rw [cell_of_row _ _ _ _ _ _ (HX3.out.heap HX0.out (fun h => h))]; rfl
      clear HWI HPR HPN HX03
      go_upto_region 8 with (fail)
      go_wp2_with (first
        | (with_reducible refine wpList_load_mid (op := ⟨some 75, _, _, _, _, _⟩) rfl 25 _ rfl n0 0 rfl (inoL n (.slice ea L ec)) _ HRA.out Try.underlying25 rfl HSA.out ?_))
      refine HWI3.out.mono ?_
      rintro e w4 ⟨aa, ac, rfl, hha, hga, hb4⟩
      have HHA := Lib.hid hha
      have HGA := Lib.hid hga
      have HX4 : Hid (Mod nob w0 w4) := HX3.out.step (mod_of_below hb4) (fun _ h => h)
      clear hha hga x0 x1 HRA HWI3
      
      have hszA : (inoL (entsI n RW) (.slice aa SZ ac)).toArray.size = 18 := by rw [List.size_toArray]; exact inoL_len HN13.out _
      have HISZ : Hid ((Try.prog.info? 25).map (·.size) = some (inoL (entsI n RW) (.slice aa SZ ac)).toArray.size) := by unfold Hid; rw [hszA]; exact Try.info18
      have HONE : Hid ((inoL (entsI n RW) (.slice aa SZ ac)).toArray.all (·.oneCell') = true) := all_oneCell_toArray (inoL_one rfl)
      have HTH : Hid ((w4.alloc (.cells z18 25)).there w4.heap.size 0 (inoL (entsI n RW) (.slice aa SZ ac)).toArray.size) := by unfold Hid; rw [hszA]; exact ino_there w4 _
      have HROW := Lib.hid (ino_row w4 25 (inoL (entsI n RW) (.slice aa SZ ac)) (inoL_len HN13.out _))
      clear hszA
      go_upto_region 9 with (with_reducible refine wpList_store_mid (op := ⟨none, _, _, _, _, _⟩) rfl 25 _ _ rfl w4.heap.size 0 (inoL (entsI n RW) (.slice aa SZ ac)).toArray rfl rfl HTH.out HISZ.out HONE.out ?_)
      try simp only [Act.put]
      have HIA : Hid (InoB ((w4.alloc (.cells z18 25)).setCells w4.heap.size 0 (inoL (entsI n RW) (.slice aa SZ ac))) w4.heap.size (entsI n RW) (.slice aa SZ ac)) := ⟨HROW.out.1, HN13.out⟩
      have HMX : Hid (Mod nob w4 ((w4.alloc (.cells z18 25)).setCells w4.heap.size 0 (inoL (entsI n RW) (.slice aa SZ ac)))) := mod_of_below HROW.out.2
      clear HROW HTH HISZ HONE
      generalize (w4.alloc (.cells z18 25)).setCells w4.heap.size 0 (inoL (entsI n RW) (.slice aa SZ ac)) = w5 at *
      obtain ⟨XA, hX⟩ : ∃ X, X = w4.heap.size := ⟨_, rfl⟩
      rw [← hX] at HIA ⊢
      have HXA := Lib.hid hX
      clear hX
      
      have HX5 : Hid (Mod nob w0 w5) := HX4.out.step HMX.out (fun _ h => h)
      have HHA5 := Lib.hid (HHA.out.mod HMX.out (fun _ _ _ h => h))
      have HWAS5 := Lib.hid ((HWAS3.out.below hb4).mod HMX.out (fun _ _ _ h => h))
      have hz3 : w3.heap.size ≤ XA := by rw [HXA.out]; exact hb4.size
      have HZ3 := Lib.hid hz3
      clear HHA HMX hb4 HX4 HWAS3 hz3
      obtain ⟨DL, hDL⟩ : ∃ d, d = RD.length := ⟨_, rfl⟩
      have HDL := Lib.hid hDL
      rw [← hDL] at HL2
      clear hDL
      have HWB : Hid (Calls Try.prog 15 #[.agg (inoL (entsI n RW) (.slice aa SZ ac)).toArray, .string nm] w5 fun e w' => ∃ ao c, e = .returned (.agg (inoL (entsI n RD) (.slice ao DL c)).toArray) ∧ HoldsE w' (.slice ao DL c) RD ∧ Below w5.heap.size w5 w') := by
        have h := without9 (w := w5) (n := entsI n RW) (ev := .slice aa SZ ac) nm HN13.out HHA5.out (show RW.length ≤ 1000 by rw [← HSZ.out]; omega)
        have e : dropE (entsI n RW).ents nm = RD := HDW.out
        rw [e] at h
        refine h.mono ?_
        rintro e w' ⟨v', rfl, ho, hb⟩
        have hh := holdsE_of_own rfl ho
        have hh2 := hh
        obtain ⟨ao, c, rfl, -⟩ := hh2
        rw [← HDL.out] at hh ⊢
        exact ⟨ao, c, rfl, hh, hb⟩
      have HRXA := Lib.hid (HIA.out.at.range HN13.out)
      have HISA : Hid ((Try.prog.info? 25).map (·.size) = some (inoL (entsI n RW) (.slice aa SZ ac)).length) := by unfold Hid; rw [inoL_len HN13.out]; exact Try.info18
      have x0 : w5.cell? ⟨n0 + 1, 0, none⟩ = some (.string nm) := by rw [cell_of_row _ _ _ _ _ _ (HX5.out.heap HX0.out (fun h => h))]; rfl
      go_wp2_with (first
        | (with_reducible refine wpList_load_mid (op := ⟨some 78, _, _, _, _, _⟩) rfl 25 _ rfl XA 0 rfl (inoL (entsI n RW) (.slice aa SZ ac)) _ HRXA.out Try.underlying25 rfl HISA.out ?_))
      refine HWB.out.mono ?_
      rintro e w6 ⟨ba, bc, rfl, hhb, hb6⟩
      have HHB := Lib.hid hhb
      clear hhb x0 HWB HRXA
      
      have hszA : (inoL (entsI n RD) (.slice ba DL bc)).toArray.size = 18 := by rw [List.size_toArray]; exact inoL_len HN13.out _
      have HISZ : Hid ((Try.prog.info? 25).map (·.size) = some (inoL (entsI n RD) (.slice ba DL bc)).toArray.size) := by unfold Hid; rw [hszA]; exact Try.info18
      have HONE : Hid ((inoL (entsI n RD) (.slice ba DL bc)).toArray.all (·.oneCell') = true) := all_oneCell_toArray (inoL_one rfl)
      have HTH : Hid ((w6.alloc (.cells z18 25)).there w6.heap.size 0 (inoL (entsI n RD) (.slice ba DL bc)).toArray.size) := by unfold Hid; rw [hszA]; exact ino_there w6 _
      have HROW := Lib.hid (ino_row w6 25 (inoL (entsI n RD) (.slice ba DL bc)) (inoL_len HN13.out _))
      clear hszA
      go_upto_region 10 with (with_reducible refine wpList_store_mid (op := ⟨none, _, _, _, _, _⟩) rfl 25 _ _ rfl w6.heap.size 0 (inoL (entsI n RD) (.slice ba DL bc)).toArray rfl rfl HTH.out HISZ.out HONE.out ?_)
      try simp only [Act.put]
      have HIB : Hid (InoB ((w6.alloc (.cells z18 25)).setCells w6.heap.size 0 (inoL (entsI n RD) (.slice ba DL bc))) w6.heap.size (entsI n RD) (.slice ba DL bc)) := ⟨HROW.out.1, HN13.out⟩
      have HMX : Hid (Mod nob w6 ((w6.alloc (.cells z18 25)).setCells w6.heap.size 0 (inoL (entsI n RD) (.slice ba DL bc)))) := mod_of_below HROW.out.2
      clear HROW HTH HISZ HONE
      generalize (w6.alloc (.cells z18 25)).setCells w6.heap.size 0 (inoL (entsI n RD) (.slice ba DL bc)) = w7 at *
      obtain ⟨XB, hX⟩ : ∃ X, X = w6.heap.size := ⟨_, rfl⟩
      rw [← hX] at HIB ⊢
      have HXB := Lib.hid hX
      clear hX
      
      have HM57 : Hid (Mod nob w5 w7) := (mod_of_below hb6).step HMX.out (fun _ h => h)
      have HX7 : Hid (Mod nob w0 w7) := HX5.out.step HM57.out (fun _ h => h)
      have HHA7 := Lib.hid (HHA5.out.mod HM57.out (fun _ _ _ h => h))
      have HIA7 := Lib.hid (HIA.out.mod HM57.out (fun h => h))
      have HWAS7 := Lib.hid (HWAS5.out.mod HM57.out (fun _ _ _ h => h))
      have HHB7 := Lib.hid (HHB.out.mod HMX.out (fun _ _ _ h => h))
      clear HHA5 HIA HWAS5 HHB HMX hb6 HX5 HM57
      have HWC : Hid (Calls Try.prog 15 #[.agg (inoL n (.slice ea L ec)).toArray, .string nm] w7 fun e w' => ∃ ao c, e = .returned (.agg (inoL (entsI n RD) (.slice ao DL c)).toArray) ∧ HoldsE w' (.slice ao DL c) RD ∧ Below w7.heap.size w7 w') := by
        refine (HWO w7 HX7.out).out.mono ?_
        rintro e w' ⟨v', rfl, ho, hb⟩
        have hh := holdsE_of_own rfl ho
        have hh2 := hh
        obtain ⟨ao, c, rfl, -⟩ := hh2
        rw [← HDL.out] at hh ⊢
        exact ⟨ao, c, rfl, hh, hb⟩
      have HRA := Lib.hid ((HA0.out.mod HX7.out (fun h => h)).at.range HNO.out.len)
      have x0 : w7.cell? ⟨n0 + 1, 0, none⟩ = some (.string nm) := by rw [cell_of_row _ _ _ _ _ _ (HX7.out.heap HX0.out (fun h => h))]; rfl
      go_wp2_with (first
        | (with_reducible refine wpList_load_mid (op := ⟨some 82, _, _, _, _, _⟩) rfl 25 _ rfl n0 0 rfl (inoL n (.slice ea L ec)) _ HRA.out Try.underlying25 rfl HSA.out ?_))
      refine HWC.out.mono ?_
      rintro e w8 ⟨ca, cc, rfl, hhc, hb8⟩
      have HHC := Lib.hid hhc
      clear hhc x0 HWC HRA HWO
      
      have hszA : (inoL (entsI n RD) (.slice ca DL cc)).toArray.size = 18 := by rw [List.size_toArray]; exact inoL_len HN13.out _
      have HISZ : Hid ((Try.prog.info? 25).map (·.size) = some (inoL (entsI n RD) (.slice ca DL cc)).toArray.size) := by unfold Hid; rw [hszA]; exact Try.info18
      have HONE : Hid ((inoL (entsI n RD) (.slice ca DL cc)).toArray.all (·.oneCell') = true) := all_oneCell_toArray (inoL_one rfl)
      have HTH : Hid ((w8.alloc (.cells z18 25)).there w8.heap.size 0 (inoL (entsI n RD) (.slice ca DL cc)).toArray.size) := by unfold Hid; rw [hszA]; exact ino_there w8 _
      have HROW := Lib.hid (ino_row w8 25 (inoL (entsI n RD) (.slice ca DL cc)) (inoL_len HN13.out _))
      clear hszA
      go_upto_region 11 with (with_reducible refine wpList_store_mid (op := ⟨none, _, _, _, _, _⟩) rfl 25 _ _ rfl w8.heap.size 0 (inoL (entsI n RD) (.slice ca DL cc)).toArray rfl rfl HTH.out HISZ.out HONE.out ?_)
      try simp only [Act.put]
      have HIC : Hid (InoB ((w8.alloc (.cells z18 25)).setCells w8.heap.size 0 (inoL (entsI n RD) (.slice ca DL cc))) w8.heap.size (entsI n RD) (.slice ca DL cc)) := ⟨HROW.out.1, HN13.out⟩
      have HMX : Hid (Mod nob w8 ((w8.alloc (.cells z18 25)).setCells w8.heap.size 0 (inoL (entsI n RD) (.slice ca DL cc)))) := mod_of_below HROW.out.2
      clear HROW HTH HISZ HONE
      generalize (w8.alloc (.cells z18 25)).setCells w8.heap.size 0 (inoL (entsI n RD) (.slice ca DL cc)) = w9 at *
      obtain ⟨XC, hX⟩ : ∃ X, X = w8.heap.size := ⟨_, rfl⟩
      rw [← hX] at HIC ⊢
      have HXC := Lib.hid hX
      clear hX
      
      have HM79 : Hid (Mod nob w7 w9) := (mod_of_below hb8).step HMX.out (fun _ h => h)
      have HX9 : Hid (Mod nob w0 w9) := HX7.out.step HM79.out (fun _ h => h)
      have HHA9 := Lib.hid (HHA7.out.mod HM79.out (fun _ _ _ h => h))
      have HIA9 := Lib.hid (HIA7.out.mod HM79.out (fun h => h))
      have HWAS9 := Lib.hid (HWAS7.out.mod HM79.out (fun _ _ _ h => h))
      have HHB9 := Lib.hid (HHB7.out.mod HM79.out (fun _ _ _ h => h))
      have HIB9 := Lib.hid (HIB.out.mod HM79.out (fun h => h))
      have HHC9 := Lib.hid (HHC.out.mod HMX.out (fun _ _ _ h => h))
      clear HHA7 HIA7 HWAS7 HHB7 HIB HHC HMX hb8 HX7 HM79
      go_upto_if 89 with (fail)
      go_cut [12] (fun v wc => v = .int .i64 (SZ : Nat) ∧ w9 = wc)
      case first =>
        cases f with
        | true =>
          have hs : SZ = L := by rw [HL1.out]; rfl
          have HS := Lib.hid hs
          clear hs
          go_wp2_with fail
          go_meet
          case rel => exact ⟨by rw [HS.out], rfl⟩
        | false =>
          have hs : SZ = L + 1 := by rw [HL1.out]; rfl
          have HS := Lib.hid hs
          clear hs
          go_wp2_with fail
          go_meet
          case rel => exact ⟨by rw [HS.out]; rfl, rfl⟩
      case rest =>
        obtain ⟨rfl, rfl⟩ := hcut
        have HD9 : Hid (Mod nob w9 w9.drew) := (Mod.refl nob w9).drew
        have hdl : (SZ : Int) - 1 = (DL : Int) := by have := HL2.out; omega
        have hDL25 : DL ≤ 25 := by have := HL2.out; omega
        have iDL : IntKind.i64.wrap (DL : Int) = (DL : Int) := by rw [IntKind.wrap_i64]; omega
        have HHS : Hid ((entsI n RD).Ok) := by
          obtain ⟨h1, h2, h3, h4, h5, h6, h7⟩ := HNO.out
          refine ⟨h1, h2, h3, ?_, h5, h6, fun y hy => ?_⟩
          · show i64 ((RD.length : Nat) : Int)
            rw [← HDL.out]
            unfold i64
            omega
          · have hy' : y ∈ RD := hy
            rw [HRD.out] at hy'
            unfold dropE at hy'
            exact h7 y (List.mem_filter.1 hy').1
        have HSS : Hid (∀ wx, Mod nob w9 wx → wx.cell? ⟨XA, 3, none⟩ = some (.int .i64 (SZ : Nat)) ∧ wx.cell? ⟨XA, 17, none⟩ = some (.slice aa SZ ac) ∧ wx.cell? ⟨n0 + 1, 0, none⟩ = some (.string nm) ∧ wx.cell? ⟨n0 + 1, 1, none⟩ = some (.int .i64 ino) ∧ wx.cell? ⟨XB, 3, none⟩ = some (.int .i64 (DL : Nat)) ∧ wx.rangeAt XB 0 (inoL (entsI n RD) (.slice ba DL bc)) ∧ wx.rangeAt XC 0 (inoL (entsI n RD) (.slice ca DL cc))) := fun wx hm => by
          have ha := (HIA9.out.mod hm (fun h => h)).at
          have hb := (HIB9.out.mod hm (fun h => h)).at
          have hc := (HIC.out.mod hm (fun h => h)).at
          have hx := (HX9.out.step hm (fun _ h => h)).heap HX0.out (fun h => h)
          have a3 := ha.c3
          have a17 := ha.ev
          have b3 := hb.c3
          rw [Nat.zero_add] at a3 a17 b3
          refine ⟨?_, a17, by rw [cell_of_row _ _ _ _ _ _ hx]; rfl, by rw [cell_of_row _ _ _ _ _ _ hx]; rfl, ?_, hb.range HN13.out, hc.range HN13.out⟩
          · rw [a3, HSZ.out]; rfl
          · rw [b3, HDL.out]; rfl
        have HRFA : Hid (∀ wx, Mod nob w9 wx → Calls Try.prog 12 #[.slice aa SZ ac, .string nm] wx fun e w' => e = .returned (.int .i64 ino) ∧ wx = w') := fun wx hm => by
          have h := refFind9 (w := wx) nm (HHA9.out.mod hm (fun _ _ _ h => h)) (by rw [← HSZ.out]; omega)
          rw [ref_eq, HRW.out] at h
          exact h
        have HSM : Hid (∀ wx, Mod nob w9 wx → Calls Try.prog 16 #[.agg (inoL (entsI n RD) (.slice ba DL bc)).toArray, .agg (inoL (entsI n RD) (.slice ca DL cc)).toArray] wx fun e w' => e = .returned (.bool true) ∧ Below wx.heap.size wx w') := fun wx hm => same6 HHS.out (HHB9.out.mod hm (fun _ _ _ h => h)) (HHC9.out.mod hm (fun _ _ _ h => h))
        have HISB : Hid ((Try.prog.info? 25).map (·.size) = some (inoL (entsI n RD) (.slice ba DL bc)).length) := by unfold Hid; rw [inoL_len (n := entsI n RD) HNO.out.len]; exact Try.info18
        have HISC : Hid ((Try.prog.info? 25).map (·.size) = some (inoL (entsI n RD) (.slice ca DL cc)).length) := by unfold Hid; rw [inoL_len (n := entsI n RD) HNO.out.len]; exact Try.info18
        have HU25 := Lib.hid Try.underlying25
        obtain ⟨AB, hAB⟩ : ∃ v, v = Value.agg (inoL (entsI n RD) (.slice ba DL bc)).toArray := ⟨_, rfl⟩
        obtain ⟨AC, hAC⟩ : ∃ v, v = Value.agg (inoL (entsI n RD) (.slice ca DL cc)).toArray := ⟨_, rfl⟩
        rw [← hAB, ← hAC] at HSM
        have HAB := Lib.hid hAB
        have HAC := Lib.hid hAC
        clear hAB hAC
        go_upto_region 14 with (fail)
        refine wp_region_noPanic ?_
        refine wp_region_held_drew (S := fun wx => wx.cell? ⟨XA, 3, none⟩ = some (.int .i64 (SZ : Nat)) ∧ wx.cell? ⟨XA, 17, none⟩ = some (.slice aa SZ ac) ∧ wx.cell? ⟨n0 + 1, 0, none⟩ = some (.string nm) ∧ wx.cell? ⟨n0 + 1, 1, none⟩ = some (.int .i64 ino) ∧ wx.cell? ⟨XB, 3, none⟩ = some (.int .i64 (DL : Nat)) ∧ wx.rangeAt XB 0 (inoL (entsI n RD) (.slice ba DL bc)) ∧ wx.rangeAt XC 0 (inoL (entsI n RD) (.slice ca DL cc))) (by kernel_rfl) (HSS.out _ HD9.out) (fun hHeld => ?_)
        refine wpAnyH_take (i := 0) (v := .pointer (some ⟨XA, 3, none⟩)) rfl (by kernel_rfl) (by kernel_rfl) (by kernel_rfl) (fun _ _ _ h => h) (Or.inl ⟨by kernel_rfl, ?_⟩) hHeld ?_
        case refine_1 =>
          rintro wx -
          go_simp
        change wpAnyH _ _ _ _ _ _ _ (Act.put _ (some 92) _) _
        simp only [Act.put, List.setIfInBounds_toArray, List.set_cons_zero, List.set_cons_succ]
        refine wpAnyH_take (i := 1) (v := .int .i64 (SZ : Nat)) rfl (by kernel_rfl) (by kernel_rfl) (by kernel_rfl) (fun _ _ _ h => h) (Or.inl ⟨by kernel_rfl, ?_⟩) hHeld ?_
        case refine_1 =>
          rintro wx ⟨s1, s2, s3, s4, s5, -, -⟩
          go_simp
        change wpAnyH _ _ _ _ _ _ _ (Act.put _ (some 93) _) _
        simp only [Act.put, List.setIfInBounds_toArray, List.set_cons_zero, List.set_cons_succ]
        refine wpAnyH_take (i := 2) (v := .int .i64 (SZ : Nat)) rfl (by kernel_rfl) (by kernel_rfl) (by kernel_rfl) (fun _ _ _ h => h) (Or.inl ⟨by kernel_rfl, ?_⟩) hHeld ?_
        case refine_1 =>
          rintro wx -
          go_simp
        change wpAnyH _ _ _ _ _ _ _ (Act.put _ (some 94) _) _
        simp only [Act.put, List.setIfInBounds_toArray, List.set_cons_zero, List.set_cons_succ]
        refine wpAnyH_take (i := 3) (v := .bool false) rfl (by kernel_rfl) (by kernel_rfl) (by kernel_rfl) (fun _ _ _ h => h) (Or.inl ⟨by kernel_rfl, ?_⟩) hHeld ?_
        case refine_1 =>
          rintro wx -
          go_simp
        change wpAnyH _ _ _ _ _ _ _ (Act.put _ (some 95) _) _
        simp only [Act.put, List.setIfInBounds_toArray, List.set_cons_zero, List.set_cons_succ]
        refine wpAnyH_take (i := 4) (v := .bool false) rfl (by kernel_rfl) (by kernel_rfl) (by kernel_rfl) (fun _ _ _ h => h) (Or.inl ⟨by kernel_rfl, ?_⟩) hHeld ?_
        case refine_1 =>
          rintro wx -
          go_simp
        change wpAnyH _ _ _ _ _ _ _ (Act.put _ (some 96) _) _
        simp only [Act.put, List.setIfInBounds_toArray, List.set_cons_zero, List.set_cons_succ]
        refine wpAnyH_take (i := 5) (v := .pointer (some ⟨XA, 17, none⟩)) rfl (by kernel_rfl) (by kernel_rfl) (by kernel_rfl) (fun _ _ _ h => h) (Or.inl ⟨by kernel_rfl, ?_⟩) hHeld ?_
        case refine_1 =>
          rintro wx -
          go_simp
        change wpAnyH _ _ _ _ _ _ _ (Act.put _ (some 97) _) _
        simp only [Act.put, List.setIfInBounds_toArray, List.set_cons_zero, List.set_cons_succ]
        refine wpAnyH_take (i := 6) (v := .slice aa SZ ac) rfl (by kernel_rfl) (by kernel_rfl) (by kernel_rfl) (fun _ _ _ h => h) (Or.inl ⟨by kernel_rfl, ?_⟩) hHeld ?_
        case refine_1 =>
          rintro wx ⟨s1, s2, s3, s4, s5, -, -⟩
          go_simp
        change wpAnyH _ _ _ _ _ _ _ (Act.put _ (some 98) _) _
        simp only [Act.put, List.setIfInBounds_toArray, List.set_cons_zero, List.set_cons_succ]
        refine wpAnyH_take (i := 7) (v := .int .i64 (SZ : Nat)) rfl (by kernel_rfl) (by kernel_rfl) (by kernel_rfl) (fun _ _ _ h => h) (Or.inl ⟨by kernel_rfl, ?_⟩) hHeld ?_
        case refine_1 =>
          rintro wx -
          go_simp
        change wpAnyH _ _ _ _ _ _ _ (Act.put _ (some 99) _) _
        simp only [Act.put, List.setIfInBounds_toArray, List.set_cons_zero, List.set_cons_succ]
        refine wpAnyH_take (i := 8) (v := .int .i64 (SZ : Nat)) rfl (by kernel_rfl) (by kernel_rfl) (by kernel_rfl) (fun _ _ _ h => h) (Or.inl ⟨by kernel_rfl, ?_⟩) hHeld ?_
        case refine_1 =>
          rintro wx -
          go_simp
        change wpAnyH _ _ _ _ _ _ _ (Act.put _ (some 100) _) _
        simp only [Act.put, List.setIfInBounds_toArray, List.set_cons_zero, List.set_cons_succ]
        refine wpAnyH_take (i := 9) (v := .bool false) rfl (by kernel_rfl) (by kernel_rfl) (by kernel_rfl) (fun _ _ _ h => h) (Or.inl ⟨by kernel_rfl, ?_⟩) hHeld ?_
        case refine_1 =>
          rintro wx -
          go_simp
        change wpAnyH _ _ _ _ _ _ _ (Act.put _ (some 101) _) _
        simp only [Act.put, List.setIfInBounds_toArray, List.set_cons_zero, List.set_cons_succ]
        refine wpAnyH_take (i := 10) (v := .bool false) rfl (by kernel_rfl) (by kernel_rfl) (by kernel_rfl) (fun _ _ _ h => h) (Or.inl ⟨by kernel_rfl, ?_⟩) hHeld ?_
        case refine_1 =>
          rintro wx -
          go_simp
        change wpAnyH _ _ _ _ _ _ _ (Act.put _ (some 102) _) _
        simp only [Act.put, List.setIfInBounds_toArray, List.set_cons_zero, List.set_cons_succ]
        refine wpAnyH_take (i := 11) (v := .bool false) rfl (by kernel_rfl) (by kernel_rfl) (by kernel_rfl) (fun _ _ _ h => h) (Or.inl ⟨by kernel_rfl, ?_⟩) hHeld ?_
        case refine_1 =>
          rintro wx -
          go_simp
        change wpAnyH _ _ _ _ _ _ _ (Act.put _ (some 103) _) _
        simp only [Act.put, List.setIfInBounds_toArray, List.set_cons_zero, List.set_cons_succ]
        refine wpAnyH_take (i := 12) (v := .pointer (some ⟨XA, 17, none⟩)) rfl (by kernel_rfl) (by kernel_rfl) (by kernel_rfl) (fun _ _ _ h => h) (Or.inl ⟨by kernel_rfl, ?_⟩) hHeld ?_
        case refine_1 =>
          rintro wx -
          go_simp
        change wpAnyH _ _ _ _ _ _ _ (Act.put _ (some 104) _) _
        simp only [Act.put, List.setIfInBounds_toArray, List.set_cons_zero, List.set_cons_succ]
        refine wpAnyH_take (i := 13) (v := .slice aa SZ ac) rfl (by kernel_rfl) (by kernel_rfl) (by kernel_rfl) (fun _ _ _ h => h) (Or.inl ⟨by kernel_rfl, ?_⟩) hHeld ?_
        case refine_1 =>
          rintro wx ⟨s1, s2, s3, s4, s5, -, -⟩
          go_simp
        change wpAnyH _ _ _ _ _ _ _ (Act.put _ (some 105) _) _
        simp only [Act.put, List.setIfInBounds_toArray, List.set_cons_zero, List.set_cons_succ]
        refine wpAnyH_take (i := 14) (v := .pointer (some ⟨n0 + 1, 0, none⟩)) rfl (by kernel_rfl) (by kernel_rfl) (by kernel_rfl) (fun _ _ _ h => h) (Or.inl ⟨by kernel_rfl, ?_⟩) hHeld ?_
        case refine_1 =>
          rintro wx -
          go_simp
        change wpAnyH _ _ _ _ _ _ _ (Act.put _ (some 106) _) _
        simp only [Act.put, List.setIfInBounds_toArray, List.set_cons_zero, List.set_cons_succ]
        refine wpAnyH_take (i := 15) (v := .string nm) rfl (by kernel_rfl) (by kernel_rfl) (by kernel_rfl) (fun _ _ _ h => h) (Or.inl ⟨by kernel_rfl, ?_⟩) hHeld ?_
        case refine_1 =>
          rintro wx ⟨s1, s2, s3, s4, s5, -, -⟩
          go_simp
        change wpAnyH _ _ _ _ _ _ _ (Act.put _ (some 107) _) _
        simp only [Act.put, List.setIfInBounds_toArray, List.set_cons_zero, List.set_cons_succ]
        refine wpAnyH_take (i := 17) (v := .pointer (some ⟨n0 + 1, 1, none⟩)) rfl (by kernel_rfl) (by kernel_rfl) (by kernel_rfl) (fun _ _ _ h => h) (Or.inl ⟨by kernel_rfl, ?_⟩) hHeld ?_
        case refine_1 =>
          rintro wx -
          go_simp
        change wpAnyH _ _ _ _ _ _ _ (Act.put _ (some 109) _) _
        simp only [Act.put, List.setIfInBounds_toArray, List.set_cons_zero, List.set_cons_succ]
        refine wpAnyH_take (i := 18) (v := .int .i64 ino) rfl (by kernel_rfl) (by kernel_rfl) (by kernel_rfl) (fun _ _ _ h => h) (Or.inl ⟨by kernel_rfl, ?_⟩) hHeld ?_
        case refine_1 =>
          rintro wx ⟨s1, s2, s3, s4, s5, -, -⟩
          go_simp
        change wpAnyH _ _ _ _ _ _ _ (Act.put _ (some 110) _) _
        simp only [Act.put, List.setIfInBounds_toArray, List.set_cons_zero, List.set_cons_succ]
        refine wpAnyH_ready (rs := [16]) (by kernel_rfl) (by simp) ?_
        refine AllReadyH.cons rfl (fun K hK => ?_) AllReadyH.nil
        go_simp
        refine (HRFA.out _ HD9.out).mono ?_
        rintro e w' ⟨rfl, rfl⟩
        go_wp2_with fail
        refine hK.out _ _ (HSS.out _ HD9.out) (fun hHeld1 => ?_)
        clear hK K
        try simp only [Act.put, List.setIfInBounds_toArray, List.set_cons_zero, List.set_cons_succ]
        refine wpAnyH_take (i := 19) (v := .bool false) rfl (by kernel_rfl) (by kernel_rfl) (by kernel_rfl) (fun _ _ _ h => h) (Or.inl ⟨by kernel_rfl, ?_⟩) hHeld1 ?_
        case refine_1 =>
          rintro wx -
          go_simp
        change wpAnyH _ _ _ _ _ _ _ (Act.put _ (some 111) _) _
        simp only [Act.put, List.setIfInBounds_toArray, List.set_cons_zero, List.set_cons_succ]
        refine wpAnyH_take (i := 20) (v := .bool false) rfl (by kernel_rfl) (by kernel_rfl) (by kernel_rfl) (fun _ _ _ h => h) (Or.inl ⟨by kernel_rfl, ?_⟩) hHeld1 ?_
        case refine_1 =>
          rintro wx -
          go_simp
        change wpAnyH _ _ _ _ _ _ _ (Act.put _ (some 112) _) _
        simp only [Act.put, List.setIfInBounds_toArray, List.set_cons_zero, List.set_cons_succ]
        refine wpAnyH_take (i := 21) (v := undef) rfl (by kernel_rfl) (by kernel_rfl) (by kernel_rfl) (fun _ _ _ h => h) (Or.inr ⟨by kernel_rfl, rfl⟩) hHeld1 ?_
        change wpAnyH _ _ _ _ _ _ _ (Act.put _ (some 113) _) _
        simp only [Act.put, List.setIfInBounds_toArray, List.set_cons_zero, List.set_cons_succ]
        refine wpAnyH_take (i := 22) (v := undef) rfl (by kernel_rfl) (by kernel_rfl) (by kernel_rfl) (fun _ _ _ h => h) (Or.inr ⟨by kernel_rfl, rfl⟩) hHeld1 ?_
        change wpAnyH _ _ _ _ _ _ _ (Act.put _ (some 114) _) _
        simp only [Act.put, List.setIfInBounds_toArray, List.set_cons_zero, List.set_cons_succ]
        refine wpAnyH_take (i := 23) (v := undef) rfl (by kernel_rfl) (by kernel_rfl) (by kernel_rfl) (fun _ _ _ h => h) (Or.inr ⟨by kernel_rfl, rfl⟩) hHeld1 ?_
        change wpAnyH _ _ _ _ _ _ _ (Act.put _ (some 115) _) _
        simp only [Act.put, List.setIfInBounds_toArray, List.set_cons_zero, List.set_cons_succ]
        refine wpAnyH_take (i := 24) (v := .bool false) rfl (by kernel_rfl) (by kernel_rfl) (by kernel_rfl) (fun _ _ _ h => h) (Or.inl ⟨by kernel_rfl, ?_⟩) hHeld1 ?_
        case refine_1 =>
          rintro wx -
          go_simp
        change wpAnyH _ _ _ _ _ _ _ (Act.put _ (some 116) _) _
        simp only [Act.put, List.setIfInBounds_toArray, List.set_cons_zero, List.set_cons_succ]
        refine wpAnyH_take (i := 25) (v := .bool false) rfl (by kernel_rfl) (by kernel_rfl) (by kernel_rfl) (fun _ _ _ h => h) (Or.inl ⟨by kernel_rfl, ?_⟩) hHeld1 ?_
        case refine_1 =>
          rintro wx -
          go_simp
        change wpAnyH _ _ _ _ _ _ _ (Act.put _ (some 117) _) _
        simp only [Act.put, List.setIfInBounds_toArray, List.set_cons_zero, List.set_cons_succ]
        refine wpAnyH_take (i := 26) (v := .bool false) rfl (by kernel_rfl) (by kernel_rfl) (by kernel_rfl) (fun _ _ _ h => h) (Or.inl ⟨by kernel_rfl, ?_⟩) hHeld1 ?_
        case refine_1 =>
          rintro wx -
          go_simp
        change wpAnyH _ _ _ _ _ _ _ (Act.put _ (some 118) _) _
        simp only [Act.put, List.setIfInBounds_toArray, List.set_cons_zero, List.set_cons_succ]
        refine wpAnyH_take (i := 27) (oi := ⟨some 119, .load 25 (.tmp 10), 25, _, _, some (26, false)⟩) (v := AB) rfl (by kernel_rfl) (by kernel_rfl) (by kernel_rfl) (fun _ _ _ h => h) (by rw [HAB.out]; exact yieldsIf_load_mid (by kernel_rfl) 25 (.tmp 10) rfl XB 0 rfl _ _ (fun _ h => h.2.2.2.2.2.1) HU25.out rfl HISB.out) hHeld1 ?_
        change wpAnyH _ _ _ _ _ _ _ (Act.put _ (some 119) _) _
        simp only [Act.put, List.setIfInBounds_toArray, List.set_cons_zero, List.set_cons_succ]
        refine wpAnyH_take (i := 28) (oi := ⟨some 120, .load 25 (.tmp 11), 25, _, _, some (26, false)⟩) (v := AC) rfl (by kernel_rfl) (by kernel_rfl) (by kernel_rfl) (fun _ _ _ h => h) (by rw [HAC.out]; exact yieldsIf_load_mid (by kernel_rfl) 25 (.tmp 11) rfl XC 0 rfl _ _ (fun _ h => h.2.2.2.2.2.2) HU25.out rfl HISC.out) hHeld1 ?_
        change wpAnyH _ _ _ _ _ _ _ (Act.put _ (some 120) _) _
        simp only [Act.put, List.setIfInBounds_toArray, List.set_cons_zero, List.set_cons_succ]
        refine wpAnyH_ready (rs := [29]) (by kernel_rfl) (by simp) ?_
        refine AllReadyH.cons rfl (fun K hK => ?_) AllReadyH.nil
        go_simp
        refine (HSM.out _ HD9.out).mono ?_
        rintro e w10 ⟨rfl, hb10⟩
        have HM10 : Hid (Mod nob w9 w10) := HD9.out.step (mod_of_below hb10) (fun _ h => h)
        clear hb10
        go_wp2_with fail
        refine hK.out _ _ (HSS.out _ HM10.out) (fun hHeld2 => ?_)
        clear hK K
        try simp only [Act.put, List.setIfInBounds_toArray, List.set_cons_zero, List.set_cons_succ]
        refine wpAnyH_take (i := 30) (v := .bool false) rfl (by kernel_rfl) (by kernel_rfl) (by kernel_rfl) (fun _ _ _ h => h) (Or.inl ⟨by kernel_rfl, ?_⟩) hHeld2 ?_
        case refine_1 =>
          rintro wx -
          go_simp
        change wpAnyH _ _ _ _ _ _ _ (Act.put _ (some 122) _) _
        simp only [Act.put, List.setIfInBounds_toArray, List.set_cons_zero, List.set_cons_succ]
        refine wpAnyH_take (i := 31) (v := .bool false) rfl (by kernel_rfl) (by kernel_rfl) (by kernel_rfl) (fun _ _ _ h => h) (Or.inl ⟨by kernel_rfl, ?_⟩) hHeld2 ?_
        case refine_1 =>
          rintro wx -
          go_simp
        change wpAnyH _ _ _ _ _ _ _ (Act.put _ (some 123) _) _
        simp only [Act.put, List.setIfInBounds_toArray, List.set_cons_zero, List.set_cons_succ]
        refine wpAnyH_take (i := 32) (v := .bool false) rfl (by kernel_rfl) (by kernel_rfl) (by kernel_rfl) (fun _ _ _ h => h) (Or.inl ⟨by kernel_rfl, ?_⟩) hHeld2 ?_
        case refine_1 =>
          rintro wx -
          go_simp
        change wpAnyH _ _ _ _ _ _ _ (Act.put _ (some 124) _) _
        simp only [Act.put, List.setIfInBounds_toArray, List.set_cons_zero, List.set_cons_succ]
        refine wpAnyH_take (i := 33) (v := .pointer (some ⟨XB, 3, none⟩)) rfl (by kernel_rfl) (by kernel_rfl) (by kernel_rfl) (fun _ _ _ h => h) (Or.inl ⟨by kernel_rfl, ?_⟩) hHeld2 ?_
        case refine_1 =>
          rintro wx -
          go_simp
        change wpAnyH _ _ _ _ _ _ _ (Act.put _ (some 125) _) _
        simp only [Act.put, List.setIfInBounds_toArray, List.set_cons_zero, List.set_cons_succ]
        refine wpAnyH_take (i := 34) (v := .int .i64 (DL : Nat)) rfl (by kernel_rfl) (by kernel_rfl) (by kernel_rfl) (fun _ _ _ h => h) (Or.inl ⟨by kernel_rfl, ?_⟩) hHeld2 ?_
        case refine_1 =>
          rintro wx ⟨s1, s2, s3, s4, s5, -, -⟩
          go_simp
        change wpAnyH _ _ _ _ _ _ _ (Act.put _ (some 126) _) _
        simp only [Act.put, List.setIfInBounds_toArray, List.set_cons_zero, List.set_cons_succ]
        refine wpAnyH_take (i := 35) (v := .int .i64 (SZ : Nat)) rfl (by kernel_rfl) (by kernel_rfl) (by kernel_rfl) (fun _ _ _ h => h) (Or.inl ⟨by kernel_rfl, ?_⟩) hHeld2 ?_
        case refine_1 =>
          rintro wx -
          go_simp
        change wpAnyH _ _ _ _ _ _ _ (Act.put _ (some 127) _) _
        simp only [Act.put, List.setIfInBounds_toArray, List.set_cons_zero, List.set_cons_succ]
        refine wpAnyH_take (i := 36) (v := .int .i64 (DL : Nat)) rfl (by kernel_rfl) (by kernel_rfl) (by kernel_rfl) (fun _ _ _ h => h) (Or.inl ⟨by kernel_rfl, ?_⟩) hHeld2 ?_
        case refine_1 =>
          rintro wx -
          go_simp
        change wpAnyH _ _ _ _ _ _ _ (Act.put _ (some 128) _) _
        simp only [Act.put, List.setIfInBounds_toArray, List.set_cons_zero, List.set_cons_succ]
        refine wpAnyH_take (i := 37) (v := .bool false) rfl (by kernel_rfl) (by kernel_rfl) (by kernel_rfl) (fun _ _ _ h => h) (Or.inl ⟨by kernel_rfl, ?_⟩) hHeld2 ?_
        case refine_1 =>
          rintro wx -
          go_simp
        change wpAnyH _ _ _ _ _ _ _ (Act.put _ (some 129) _) _
        simp only [Act.put, List.setIfInBounds_toArray, List.set_cons_zero, List.set_cons_succ]
        refine wpAnyH_take (i := 38) (v := .bool false) rfl (by kernel_rfl) (by kernel_rfl) (by kernel_rfl) (fun _ _ _ h => h) (Or.inl ⟨by kernel_rfl, ?_⟩) hHeld2 ?_
        case refine_1 =>
          rintro wx -
          go_simp
        change wpAnyH _ _ _ _ _ _ _ (Act.put _ (some 130) _) _
        simp only [Act.put, List.setIfInBounds_toArray, List.set_cons_zero, List.set_cons_succ]
        refine wpAnyH_done (by kernel_rfl) ?_ _
        refine NoPanic.normal ?_
        clear hHeld hHeld1 hHeld2 HSM HRFA HD9 HAB HAC hdl iDL
        have HX10 : Hid (Mod nob w0 w10) := HX9.out.step HM10.out (fun _ h => h)
        have HHA10 := Lib.hid (HHA9.out.mod HM10.out (fun _ _ _ h => h))
        have HHB10 := Lib.hid (HHB9.out.mod HM10.out (fun _ _ _ h => h))
        have HWAS10 := Lib.hid (HWAS9.out.mod HM10.out (fun _ _ _ h => h))
        have HIA10 := Lib.hid (HIA9.out.mod HM10.out (fun h => h))
        have HIB10 := Lib.hid (HIB9.out.mod HM10.out (fun h => h))
        clear HSS HHA9 HHB9 HHC9 HWAS9 HIA9 HIB9 HIC HX9 HM10 HISB HISC HHS
        have hSZ1 : 1 ≤ SZ := by have := HL2.out; omega
        go_wp2_with fail
        go_loopg [13] SZ (fun gk iv wr => ∃ j : Nat, j + gk = SZ ∧ j + 1 ≤ SZ ∧ iv = .int .i64 ((j : Int) + 1) ∧ Hid (Mod nob w10 wr))
        case atStart => exact ⟨0, by omega, by omega, rfl, Mod.refl nob w10⟩
        case round =>
          obtain ⟨j, hj, hj1, rfl, HMW⟩ := hrel
          have a17 := (HIA10.out.mod HMW.out (fun h => h)).at.ev
          rw [Nat.zero_add] at a17
          by_cases hlt : j + 1 < SZ
          · have hli : (j : Int) + 1 < (SZ : Int) := by omega
            have hjL : (j : Int) < (SZ : Int) := by omega
            obtain ⟨ao', c', e, -, -, -, hcell⟩ := HHA10.out.mod HMW.out (fun _ _ _ h => h)
            rw [← HSZ.out] at e
            simp only [Value.slice.injEq] at e
            obtain ⟨rfl, -, rfl⟩ := e
            obtain ⟨g, o, rfl, d1, -⟩ := hcell j (by rw [← HSZ.out]; omega)
            obtain ⟨g', o', e', f1, -⟩ := hcell (j + 1) (by rw [← HSZ.out]; omega)
            simp only [Option.some.injEq, Addr.mk.injEq, and_true] at e'
            obtain ⟨rfl, rfl⟩ := e'
            have hs := sortE_of HSW.out j (j + 1) (by omega) (by rw [← HSZ.out]; exact hlt)
            rw [ltE_iff] at hs
            obtain ⟨np, hnp⟩ : ∃ x, x = (RW.getD j default).name := ⟨_, rfl⟩
            obtain ⟨nk, hnk⟩ : ∃ x, x = (RW.getD (j + 1) default).name := ⟨_, rfl⟩
            rw [← hnp] at d1 hs
            rw [← hnk] at f1 hs
            have hb1 : Op.bytesLess nk.toList np.toList = false := blq_asymm hs
            have hb2 : (nk.toList == np.toList) = false := ltN_ne' hs
            have htn : ((j : Int) + 1).toNat = j + 1 := by omega
            have hb3 : (0 : Int) ≤ (j : Int) + 1 := by omega
            clear hcell hs hnp hnk
            go_upto_region 19 with (fail)
            go_quiet (fail)
            go_wp2_with fail
            go_roundg (gk - 1)
            case measure => omega
            case rel => exact ⟨j + 1, by omega, by omega, by go_num, HMW.out.drewN _⟩
          · have hli : ¬ (j : Int) + 1 < (SZ : Int) := by omega
            obtain ⟨w11, hw11⟩ : ∃ y : World, y = wr := ⟨_, rfl⟩
            rw [← hw11] at HMW a17 ⊢
            clear hw11
            have HX11 : Hid (Mod nob w0 w11) := HX10.out.step HMW.out (fun _ h => h)
            have HHB11 := Lib.hid (HHB10.out.mod HMW.out (fun _ _ _ h => h))
            have HWAS11 := Lib.hid (HWAS10.out.mod HMW.out (fun _ _ _ h => h))
            have HIB11 := Lib.hid (HIB10.out.mod HMW.out (fun h => h))
            go_wp2_with fail
            clear HX10 HHA10 HHB10 HWAS10 HIA10 HIB10 HMW a17 HRW HDW HSW HGA
            go_loopg [14] L (fun gk iv wr => ∃ k : Nat, k + gk = L ∧ iv = .int .i64 (k : Nat) ∧ Hid (Mod nob w11 wr))
            case atStart => exact ⟨0, by omega, rfl, Mod.refl nob w11⟩
            case round =>
              obtain ⟨k, hk, rfl, HMV⟩ := hrel
              by_cases hltL : k < L
              · have hkL : (k : Int) < (L : Int) := by omega
                obtain ⟨ao1, c1', e, -, -, -, hcell⟩ := HE.out
                rw [← HL.out] at e
                simp only [Value.slice.injEq] at e
                obtain ⟨rfl, -, rfl⟩ := e
                obtain ⟨g, o, rfl, d1, d2⟩ := hcell k (by rw [← HL.out]; exact hltL)
                obtain ⟨ao2, c2', e, -, -, -, hcell2⟩ := HWAS11.out
                rw [← HL.out] at e
                simp only [Value.slice.injEq] at e
                obtain ⟨rfl, -, rfl⟩ := e
                obtain ⟨gw, ow, rfl, f1, f2⟩ := hcell2 k (by rw [← HL.out]; exact hltL)
                have hzm : n.ents.getD k default ∈ n.ents := by
                  rw [List.getD_eq_getElem?_getD, List.getElem?_eq_getElem (by rw [← HL.out]; exact hltL)]
                  exact List.getElem_mem _
                obtain ⟨z, hz⟩ : ∃ z, z = n.ents.getD k default := ⟨_, rfl⟩
                rw [← hz] at d1 d2 f1 f2 hzm
                obtain ⟨zn, zi⟩ := z
                simp only at d1 d2 f1 f2
                have HDW : Hid (Mod nob wr wr.drew) := (Mod.refl nob wr).drew
                have HSS : Hid (∀ wx, Mod nob wr wx → wx.cell? ⟨n0, 17, none⟩ = some (.slice (some ⟨g, o, none⟩) L ec) ∧ wx.cell? ⟨g, o + k * 2, none⟩ = some (.string zn) ∧ wx.cell? ⟨g, o + k * 2 + 1, none⟩ = some (.int .i64 zi) ∧ wx.cell? ⟨gw, ow + k * 2, none⟩ = some (.string zn) ∧ wx.cell? ⟨gw, ow + k * 2 + 1, none⟩ = some (.int .i64 zi) ∧ wx.cell? ⟨n0 + 1, 0, none⟩ = some (.string nm) ∧ wx.cell? ⟨XB, 17, none⟩ = some (.slice ba DL bc)) := fun wx hm => by
                  have m1 : Mod nob w11 wx := HMV.out.step hm (fun _ h => h)
                  have m0 : Mod nob w0 wx := HX11.out.step m1 (fun _ h => h)
                  have a17 := (HA0.out.mod m0 (fun h => h)).at.ev
                  have b17 := (HIB11.out.mod m1 (fun h => h)).at.ev
                  rw [Nat.zero_add] at a17 b17
                  exact ⟨a17, m0.cell d1 (fun h => h), m0.cell d2 (fun h => h), m1.cell f1 (fun h => h), m1.cell f2 (fun h => h), by rw [cell_of_row _ _ _ _ _ _ (m0.heap HX0.out (fun h => h))]; rfl, b17⟩
                have hneq := neqE_run zn zi
                have hz1 : -9223372036854775808 ≤ zi ∧ zi ≤ 9223372036854775807 := (HNO.out.ents _ hzm).ino
                obtain ⟨s1a, s2a, s3a, s4a, s5a, s6a, s7a⟩ := HSS.out wr (Mod.refl nob wr)
                cases he : eqN zn nm with
                | true =>
                  have hev : (zn.toList == nm.toList) = true := he
                  clear hcell hcell2 d1 d2 f1 f2 hzm hz he s2a s3a s4a s5a s6a s7a
                  go_upto_region 24 with (fail)
                  refine wp_region_noPanic ?_
                  refine wp_region_held_drew (S := fun wx => wx.cell? ⟨n0, 17, none⟩ = some (.slice (some ⟨g, o, none⟩) L ec) ∧ wx.cell? ⟨g, o + k * 2, none⟩ = some (.string zn) ∧ wx.cell? ⟨g, o + k * 2 + 1, none⟩ = some (.int .i64 zi) ∧ wx.cell? ⟨gw, ow + k * 2, none⟩ = some (.string zn) ∧ wx.cell? ⟨gw, ow + k * 2 + 1, none⟩ = some (.int .i64 zi) ∧ wx.cell? ⟨n0 + 1, 0, none⟩ = some (.string nm) ∧ wx.cell? ⟨XB, 17, none⟩ = some (.slice ba DL bc)) (by kernel_rfl) (HSS.out _ HDW.out) (fun hHeld => ?_)
                  refine wpAnyH_take (i := 0) (v := .pointer (some ⟨n0, 17, none⟩)) rfl (by kernel_rfl) (by kernel_rfl) (by kernel_rfl) (fun _ _ _ h => h) (Or.inl ⟨by kernel_rfl, ?_⟩) hHeld ?_
                  case refine_1 =>
                    rintro wx -
                    go_simp
                  change wpAnyH _ _ _ _ _ _ _ (Act.put _ (some 158) _) _
                  simp only [Act.put, List.setIfInBounds_toArray, List.set_cons_zero, List.set_cons_succ]
                  refine wpAnyH_take (i := 1) (v := .slice (some ⟨g, o, none⟩) L ec) rfl (by kernel_rfl) (by kernel_rfl) (by kernel_rfl) (fun _ _ _ h => h) (Or.inl ⟨by kernel_rfl, ?_⟩) hHeld ?_
                  case refine_1 =>
                    rintro wx ⟨s1, s2, s3, s4, s5, s6, s7⟩
                    go_simp
                  change wpAnyH _ _ _ _ _ _ _ (Act.put _ (some 159) _) _
                  simp only [Act.put, List.setIfInBounds_toArray, List.set_cons_zero, List.set_cons_succ]
                  refine wpAnyH_take (i := 2) (v := .int .i64 (k : Nat)) rfl (by kernel_rfl) (by kernel_rfl) (by kernel_rfl) (fun _ _ _ h => h) (Or.inl ⟨by kernel_rfl, ?_⟩) hHeld ?_
                  case refine_1 =>
                    rintro wx -
                    go_simp
                  change wpAnyH _ _ _ _ _ _ _ (Act.put _ (some 160) _) _
                  simp only [Act.put, List.setIfInBounds_toArray, List.set_cons_zero, List.set_cons_succ]
                  refine wpAnyH_take (i := 3) (v := .pointer (some ⟨g, o + k * 2, none⟩)) rfl (by kernel_rfl) (by kernel_rfl) (by kernel_rfl) (fun _ _ _ h => h) (Or.inl ⟨by kernel_rfl, ?_⟩) hHeld ?_
                  case refine_1 =>
                    rintro wx -
                    go_simp
                  change wpAnyH _ _ _ _ _ _ _ (Act.put _ (some 161) _) _
                  simp only [Act.put, List.setIfInBounds_toArray, List.set_cons_zero, List.set_cons_succ]
                  refine wpAnyH_take (i := 4) (v := .agg #[.string zn, .int .i64 zi]) rfl (by kernel_rfl) (by kernel_rfl) (by kernel_rfl) (fun _ _ _ h => h) (Or.inl ⟨by kernel_rfl, ?_⟩) hHeld ?_
                  case refine_1 =>
                    rintro wx ⟨s1, s2, s3, s4, s5, s6, s7⟩
                    go_simp
                  change wpAnyH _ _ _ _ _ _ _ (Act.put _ (some 162) _) _
                  simp only [Act.put, List.setIfInBounds_toArray, List.set_cons_zero, List.set_cons_succ]
                  refine wpAnyH_take (i := 5) (v := .slice (some ⟨gw, ow, none⟩) L wcp) rfl (by kernel_rfl) (by kernel_rfl) (by kernel_rfl) (fun _ _ _ h => h) (Or.inl ⟨by kernel_rfl, ?_⟩) hHeld ?_
                  case refine_1 =>
                    rintro wx -
                    go_simp
                  change wpAnyH _ _ _ _ _ _ _ (Act.put _ (some 163) _) _
                  simp only [Act.put, List.setIfInBounds_toArray, List.set_cons_zero, List.set_cons_succ]
                  refine wpAnyH_take (i := 6) (v := .int .i64 (k : Nat)) rfl (by kernel_rfl) (by kernel_rfl) (by kernel_rfl) (fun _ _ _ h => h) (Or.inl ⟨by kernel_rfl, ?_⟩) hHeld ?_
                  case refine_1 =>
                    rintro wx -
                    go_simp
                  change wpAnyH _ _ _ _ _ _ _ (Act.put _ (some 164) _) _
                  simp only [Act.put, List.setIfInBounds_toArray, List.set_cons_zero, List.set_cons_succ]
                  refine wpAnyH_take (i := 7) (v := .pointer (some ⟨gw, ow + k * 2, none⟩)) rfl (by kernel_rfl) (by kernel_rfl) (by kernel_rfl) (fun _ _ _ h => h) (Or.inl ⟨by kernel_rfl, ?_⟩) hHeld ?_
                  case refine_1 =>
                    rintro wx -
                    go_simp
                  change wpAnyH _ _ _ _ _ _ _ (Act.put _ (some 165) _) _
                  simp only [Act.put, List.setIfInBounds_toArray, List.set_cons_zero, List.set_cons_succ]
                  refine wpAnyH_take (i := 8) (v := .agg #[.string zn, .int .i64 zi]) rfl (by kernel_rfl) (by kernel_rfl) (by kernel_rfl) (fun _ _ _ h => h) (Or.inl ⟨by kernel_rfl, ?_⟩) hHeld ?_
                  case refine_1 =>
                    rintro wx ⟨s1, s2, s3, s4, s5, s6, s7⟩
                    go_simp
                  change wpAnyH _ _ _ _ _ _ _ (Act.put _ (some 166) _) _
                  simp only [Act.put, List.setIfInBounds_toArray, List.set_cons_zero, List.set_cons_succ]
                  refine wpAnyH_take (i := 9) (v := .bool false) rfl (by kernel_rfl) (by kernel_rfl) (by kernel_rfl) (fun _ _ _ h => h) (Or.inl ⟨by kernel_rfl, ?_⟩) hHeld ?_
                  case refine_1 =>
                    rintro wx -
                    go_simp
                  change wpAnyH _ _ _ _ _ _ _ (Act.put _ (some 167) _) _
                  simp only [Act.put, List.setIfInBounds_toArray, List.set_cons_zero, List.set_cons_succ]
                  refine wpAnyH_take (i := 10) (v := .bool false) rfl (by kernel_rfl) (by kernel_rfl) (by kernel_rfl) (fun _ _ _ h => h) (Or.inl ⟨by kernel_rfl, ?_⟩) hHeld ?_
                  case refine_1 =>
                    rintro wx -
                    go_simp
                  change wpAnyH _ _ _ _ _ _ _ (Act.put _ (some 168) _) _
                  simp only [Act.put, List.setIfInBounds_toArray, List.set_cons_zero, List.set_cons_succ]
                  refine wpAnyH_take (i := 11) (v := .slice (some ⟨gw, ow, none⟩) L wcp) rfl (by kernel_rfl) (by kernel_rfl) (by kernel_rfl) (fun _ _ _ h => h) (Or.inl ⟨by kernel_rfl, ?_⟩) hHeld ?_
                  case refine_1 =>
                    rintro wx -
                    go_simp
                  change wpAnyH _ _ _ _ _ _ _ (Act.put _ (some 169) _) _
                  simp only [Act.put, List.setIfInBounds_toArray, List.set_cons_zero, List.set_cons_succ]
                  refine wpAnyH_take (i := 12) (v := .int .i64 (k : Nat)) rfl (by kernel_rfl) (by kernel_rfl) (by kernel_rfl) (fun _ _ _ h => h) (Or.inl ⟨by kernel_rfl, ?_⟩) hHeld ?_
                  case refine_1 =>
                    rintro wx -
                    go_simp
                  change wpAnyH _ _ _ _ _ _ _ (Act.put _ (some 170) _) _
                  simp only [Act.put, List.setIfInBounds_toArray, List.set_cons_zero, List.set_cons_succ]
                  refine wpAnyH_take (i := 13) (v := .pointer (some ⟨gw, ow + k * 2, none⟩)) rfl (by kernel_rfl) (by kernel_rfl) (by kernel_rfl) (fun _ _ _ h => h) (Or.inl ⟨by kernel_rfl, ?_⟩) hHeld ?_
                  case refine_1 =>
                    rintro wx -
                    go_simp
                  change wpAnyH _ _ _ _ _ _ _ (Act.put _ (some 171) _) _
                  simp only [Act.put, List.setIfInBounds_toArray, List.set_cons_zero, List.set_cons_succ]
                  refine wpAnyH_take (i := 14) (v := .pointer (some ⟨gw, ow + k * 2, none⟩)) rfl (by kernel_rfl) (by kernel_rfl) (by kernel_rfl) (fun _ _ _ h => h) (Or.inl ⟨by kernel_rfl, ?_⟩) hHeld ?_
                  case refine_1 =>
                    rintro wx -
                    go_simp
                  change wpAnyH _ _ _ _ _ _ _ (Act.put _ (some 172) _) _
                  simp only [Act.put, List.setIfInBounds_toArray, List.set_cons_zero, List.set_cons_succ]
                  refine wpAnyH_take (i := 15) (v := .string zn) rfl (by kernel_rfl) (by kernel_rfl) (by kernel_rfl) (fun _ _ _ h => h) (Or.inl ⟨by kernel_rfl, ?_⟩) hHeld ?_
                  case refine_1 =>
                    rintro wx ⟨s1, s2, s3, s4, s5, s6, s7⟩
                    go_simp
                  change wpAnyH _ _ _ _ _ _ _ (Act.put _ (some 173) _) _
                  simp only [Act.put, List.setIfInBounds_toArray, List.set_cons_zero, List.set_cons_succ]
                  refine wpAnyH_take (i := 16) (v := .pointer (some ⟨n0 + 1, 0, none⟩)) rfl (by kernel_rfl) (by kernel_rfl) (by kernel_rfl) (fun _ _ _ h => h) (Or.inl ⟨by kernel_rfl, ?_⟩) hHeld ?_
                  case refine_1 =>
                    rintro wx -
                    go_simp
                  change wpAnyH _ _ _ _ _ _ _ (Act.put _ (some 174) _) _
                  simp only [Act.put, List.setIfInBounds_toArray, List.set_cons_zero, List.set_cons_succ]
                  refine wpAnyH_take (i := 17) (v := .string nm) rfl (by kernel_rfl) (by kernel_rfl) (by kernel_rfl) (fun _ _ _ h => h) (Or.inl ⟨by kernel_rfl, ?_⟩) hHeld ?_
                  case refine_1 =>
                    rintro wx ⟨s1, s2, s3, s4, s5, s6, s7⟩
                    go_simp
                  change wpAnyH _ _ _ _ _ _ _ (Act.put _ (some 175) _) _
                  simp only [Act.put, List.setIfInBounds_toArray, List.set_cons_zero, List.set_cons_succ]
                  refine wpAnyH_take (i := 18) (v := .bool false) rfl (by kernel_rfl) (by kernel_rfl) (by kernel_rfl) (fun _ _ _ h => h) (Or.inl ⟨by kernel_rfl, ?_⟩) hHeld ?_
                  case refine_1 =>
                    rintro wx -
                    go_simp
                  change wpAnyH _ _ _ _ _ _ _ (Act.put _ (some 176) _) _
                  simp only [Act.put, List.setIfInBounds_toArray, List.set_cons_zero, List.set_cons_succ]
                  refine wpAnyH_take (i := 19) (v := .bool false) rfl (by kernel_rfl) (by kernel_rfl) (by kernel_rfl) (fun _ _ _ h => h) (Or.inl ⟨by kernel_rfl, ?_⟩) hHeld ?_
                  case refine_1 =>
                    rintro wx -
                    go_simp
                  change wpAnyH _ _ _ _ _ _ _ (Act.put _ (some 177) _) _
                  simp only [Act.put, List.setIfInBounds_toArray, List.set_cons_zero, List.set_cons_succ]
                  refine wpAnyH_take (i := 20) (v := undef) rfl (by kernel_rfl) (by kernel_rfl) (by kernel_rfl) (fun _ _ _ h => h) (Or.inr ⟨by kernel_rfl, rfl⟩) hHeld ?_
                  change wpAnyH _ _ _ _ _ _ _ (Act.put _ (some 178) _) _
                  simp only [Act.put, List.setIfInBounds_toArray, List.set_cons_zero, List.set_cons_succ]
                  refine wpAnyH_take (i := 21) (v := undef) rfl (by kernel_rfl) (by kernel_rfl) (by kernel_rfl) (fun _ _ _ h => h) (Or.inr ⟨by kernel_rfl, rfl⟩) hHeld ?_
                  change wpAnyH _ _ _ _ _ _ _ (Act.put _ (some 179) _) _
                  simp only [Act.put, List.setIfInBounds_toArray, List.set_cons_zero, List.set_cons_succ]
                  refine wpAnyH_take (i := 22) (v := undef) rfl (by kernel_rfl) (by kernel_rfl) (by kernel_rfl) (fun _ _ _ h => h) (Or.inr ⟨by kernel_rfl, rfl⟩) hHeld ?_
                  change wpAnyH _ _ _ _ _ _ _ (Act.put _ (some 180) _) _
                  simp only [Act.put, List.setIfInBounds_toArray, List.set_cons_zero, List.set_cons_succ]
                  refine wpAnyH_take (i := 23) (v := undef) rfl (by kernel_rfl) (by kernel_rfl) (by kernel_rfl) (fun _ _ _ h => h) (Or.inr ⟨by kernel_rfl, rfl⟩) hHeld ?_
                  change wpAnyH _ _ _ _ _ _ _ (Act.put _ (some 181) _) _
                  simp only [Act.put, List.setIfInBounds_toArray, List.set_cons_zero, List.set_cons_succ]
                  refine wpAnyH_take (i := 24) (v := undef) rfl (by kernel_rfl) (by kernel_rfl) (by kernel_rfl) (fun _ _ _ h => h) (Or.inr ⟨by kernel_rfl, rfl⟩) hHeld ?_
                  change wpAnyH _ _ _ _ _ _ _ (Act.put _ (some 182) _) _
                  simp only [Act.put, List.setIfInBounds_toArray, List.set_cons_zero, List.set_cons_succ]
                  refine wpAnyH_take (i := 25) (v := undef) rfl (by kernel_rfl) (by kernel_rfl) (by kernel_rfl) (fun _ _ _ h => h) (Or.inr ⟨by kernel_rfl, rfl⟩) hHeld ?_
                  change wpAnyH _ _ _ _ _ _ _ (Act.put _ (some 183) _) _
                  simp only [Act.put, List.setIfInBounds_toArray, List.set_cons_zero, List.set_cons_succ]
                  refine wpAnyH_take (i := 26) (v := undef) rfl (by kernel_rfl) (by kernel_rfl) (by kernel_rfl) (fun _ _ _ h => h) (Or.inr ⟨by kernel_rfl, rfl⟩) hHeld ?_
                  change wpAnyH _ _ _ _ _ _ _ (Act.put _ (some 184) _) _
                  simp only [Act.put, List.setIfInBounds_toArray, List.set_cons_zero, List.set_cons_succ]
                  refine wpAnyH_take (i := 27) (v := undef) rfl (by kernel_rfl) (by kernel_rfl) (by kernel_rfl) (fun _ _ _ h => h) (Or.inr ⟨by kernel_rfl, rfl⟩) hHeld ?_
                  change wpAnyH _ _ _ _ _ _ _ (Act.put _ (some 185) _) _
                  simp only [Act.put, List.setIfInBounds_toArray, List.set_cons_zero, List.set_cons_succ]
                  refine wpAnyH_take (i := 28) (v := undef) rfl (by kernel_rfl) (by kernel_rfl) (by kernel_rfl) (fun _ _ _ h => h) (Or.inr ⟨by kernel_rfl, rfl⟩) hHeld ?_
                  change wpAnyH _ _ _ _ _ _ _ (Act.put _ (some 186) _) _
                  simp only [Act.put, List.setIfInBounds_toArray, List.set_cons_zero, List.set_cons_succ]
                  refine wpAnyH_take (i := 29) (v := undef) rfl (by kernel_rfl) (by kernel_rfl) (by kernel_rfl) (fun _ _ _ h => h) (Or.inr ⟨by kernel_rfl, rfl⟩) hHeld ?_
                  change wpAnyH _ _ _ _ _ _ _ (Act.put _ (some 187) _) _
                  simp only [Act.put, List.setIfInBounds_toArray, List.set_cons_zero, List.set_cons_succ]
                  refine wpAnyH_take (i := 30) (v := undef) rfl (by kernel_rfl) (by kernel_rfl) (by kernel_rfl) (fun _ _ _ h => h) (Or.inr ⟨by kernel_rfl, rfl⟩) hHeld ?_
                  change wpAnyH _ _ _ _ _ _ _ (Act.put _ (some 188) _) _
                  simp only [Act.put, List.setIfInBounds_toArray, List.set_cons_zero, List.set_cons_succ]
                  refine wpAnyH_take (i := 31) (v := undef) rfl (by kernel_rfl) (by kernel_rfl) (by kernel_rfl) (fun _ _ _ h => h) (Or.inr ⟨by kernel_rfl, rfl⟩) hHeld ?_
                  change wpAnyH _ _ _ _ _ _ _ (Act.put _ (some 189) _) _
                  simp only [Act.put, List.setIfInBounds_toArray, List.set_cons_zero, List.set_cons_succ]
                  refine wpAnyH_take (i := 32) (v := undef) rfl (by kernel_rfl) (by kernel_rfl) (by kernel_rfl) (fun _ _ _ h => h) (Or.inr ⟨by kernel_rfl, rfl⟩) hHeld ?_
                  change wpAnyH _ _ _ _ _ _ _ (Act.put _ (some 190) _) _
                  simp only [Act.put, List.setIfInBounds_toArray, List.set_cons_zero, List.set_cons_succ]
                  refine wpAnyH_take (i := 33) (v := undef) rfl (by kernel_rfl) (by kernel_rfl) (by kernel_rfl) (fun _ _ _ h => h) (Or.inr ⟨by kernel_rfl, rfl⟩) hHeld ?_
                  change wpAnyH _ _ _ _ _ _ _ (Act.put _ (some 191) _) _
                  simp only [Act.put, List.setIfInBounds_toArray, List.set_cons_zero, List.set_cons_succ]
                  refine wpAnyH_take (i := 34) (v := .bool false) rfl (by kernel_rfl) (by kernel_rfl) (by kernel_rfl) (fun _ _ _ h => h) (Or.inl ⟨by kernel_rfl, ?_⟩) hHeld ?_
                  case refine_1 =>
                    rintro wx -
                    go_simp
                  change wpAnyH _ _ _ _ _ _ _ (Act.put _ (some 192) _) _
                  simp only [Act.put, List.setIfInBounds_toArray, List.set_cons_zero, List.set_cons_succ]
                  refine wpAnyH_take (i := 35) (v := .bool false) rfl (by kernel_rfl) (by kernel_rfl) (by kernel_rfl) (fun _ _ _ h => h) (Or.inl ⟨by kernel_rfl, ?_⟩) hHeld ?_
                  case refine_1 =>
                    rintro wx -
                    go_simp
                  change wpAnyH _ _ _ _ _ _ _ (Act.put _ (some 193) _) _
                  simp only [Act.put, List.setIfInBounds_toArray, List.set_cons_zero, List.set_cons_succ]
                  refine wpAnyH_done (by kernel_rfl) ?_ _
                  refine NoPanic.normal ?_
                  clear HSS HDW hHeld
                  go_wp2_with fail
                  go_roundg (gk - 1)
                  case measure => omega
                  case rel => exact ⟨k + 1, by omega, by go_num, HMV.out.drew⟩
                | false =>
                  have hev : (zn.toList == nm.toList) = false := he
                  have hrd := HPT.out.ref_drop HSP.out hzm he
                  rw [← HRD.out] at hrd
                  have HRFB : Hid (∀ wx, Mod nob wr wx → Calls Try.prog 12 #[.slice ba DL bc, .string zn] wx fun e w' => e = .returned (.int .i64 zi) ∧ wx = w') := fun wx hm => by
                    have h := refFind9 (w := wx) zn (HHB11.out.mod (HMV.out.step hm (fun _ h => h)) (fun _ _ _ h => h)) (by rw [← HDL.out]; have := HL2.out; omega)
                    rw [ref_eq, hrd] at h
                    exact h
                  clear hcell hcell2 d1 d2 f1 f2 hzm hz he hrd s2a s3a s4a s5a s6a s7a
                  go_upto_region 24 with (fail)
                  refine wp_region_noPanic ?_
                  refine wp_region_held_drew (S := fun wx => wx.cell? ⟨n0, 17, none⟩ = some (.slice (some ⟨g, o, none⟩) L ec) ∧ wx.cell? ⟨g, o + k * 2, none⟩ = some (.string zn) ∧ wx.cell? ⟨g, o + k * 2 + 1, none⟩ = some (.int .i64 zi) ∧ wx.cell? ⟨gw, ow + k * 2, none⟩ = some (.string zn) ∧ wx.cell? ⟨gw, ow + k * 2 + 1, none⟩ = some (.int .i64 zi) ∧ wx.cell? ⟨n0 + 1, 0, none⟩ = some (.string nm) ∧ wx.cell? ⟨XB, 17, none⟩ = some (.slice ba DL bc)) (by kernel_rfl) (HSS.out _ HDW.out) (fun hHeld => ?_)
                  refine wpAnyH_take (i := 0) (v := .pointer (some ⟨n0, 17, none⟩)) rfl (by kernel_rfl) (by kernel_rfl) (by kernel_rfl) (fun _ _ _ h => h) (Or.inl ⟨by kernel_rfl, ?_⟩) hHeld ?_
                  case refine_1 =>
                    rintro wx -
                    go_simp
                  change wpAnyH _ _ _ _ _ _ _ (Act.put _ (some 158) _) _
                  simp only [Act.put, List.setIfInBounds_toArray, List.set_cons_zero, List.set_cons_succ]
                  refine wpAnyH_take (i := 1) (v := .slice (some ⟨g, o, none⟩) L ec) rfl (by kernel_rfl) (by kernel_rfl) (by kernel_rfl) (fun _ _ _ h => h) (Or.inl ⟨by kernel_rfl, ?_⟩) hHeld ?_
                  case refine_1 =>
                    rintro wx ⟨s1, s2, s3, s4, s5, s6, s7⟩
                    go_simp
                  change wpAnyH _ _ _ _ _ _ _ (Act.put _ (some 159) _) _
                  simp only [Act.put, List.setIfInBounds_toArray, List.set_cons_zero, List.set_cons_succ]
                  refine wpAnyH_take (i := 2) (v := .int .i64 (k : Nat)) rfl (by kernel_rfl) (by kernel_rfl) (by kernel_rfl) (fun _ _ _ h => h) (Or.inl ⟨by kernel_rfl, ?_⟩) hHeld ?_
                  case refine_1 =>
                    rintro wx -
                    go_simp
                  change wpAnyH _ _ _ _ _ _ _ (Act.put _ (some 160) _) _
                  simp only [Act.put, List.setIfInBounds_toArray, List.set_cons_zero, List.set_cons_succ]
                  refine wpAnyH_take (i := 3) (v := .pointer (some ⟨g, o + k * 2, none⟩)) rfl (by kernel_rfl) (by kernel_rfl) (by kernel_rfl) (fun _ _ _ h => h) (Or.inl ⟨by kernel_rfl, ?_⟩) hHeld ?_
                  case refine_1 =>
                    rintro wx -
                    go_simp
                  change wpAnyH _ _ _ _ _ _ _ (Act.put _ (some 161) _) _
                  simp only [Act.put, List.setIfInBounds_toArray, List.set_cons_zero, List.set_cons_succ]
                  refine wpAnyH_take (i := 4) (v := .agg #[.string zn, .int .i64 zi]) rfl (by kernel_rfl) (by kernel_rfl) (by kernel_rfl) (fun _ _ _ h => h) (Or.inl ⟨by kernel_rfl, ?_⟩) hHeld ?_
                  case refine_1 =>
                    rintro wx ⟨s1, s2, s3, s4, s5, s6, s7⟩
                    go_simp
                  change wpAnyH _ _ _ _ _ _ _ (Act.put _ (some 162) _) _
                  simp only [Act.put, List.setIfInBounds_toArray, List.set_cons_zero, List.set_cons_succ]
                  refine wpAnyH_take (i := 5) (v := .slice (some ⟨gw, ow, none⟩) L wcp) rfl (by kernel_rfl) (by kernel_rfl) (by kernel_rfl) (fun _ _ _ h => h) (Or.inl ⟨by kernel_rfl, ?_⟩) hHeld ?_
                  case refine_1 =>
                    rintro wx -
                    go_simp
                  change wpAnyH _ _ _ _ _ _ _ (Act.put _ (some 163) _) _
                  simp only [Act.put, List.setIfInBounds_toArray, List.set_cons_zero, List.set_cons_succ]
                  refine wpAnyH_take (i := 6) (v := .int .i64 (k : Nat)) rfl (by kernel_rfl) (by kernel_rfl) (by kernel_rfl) (fun _ _ _ h => h) (Or.inl ⟨by kernel_rfl, ?_⟩) hHeld ?_
                  case refine_1 =>
                    rintro wx -
                    go_simp
                  change wpAnyH _ _ _ _ _ _ _ (Act.put _ (some 164) _) _
                  simp only [Act.put, List.setIfInBounds_toArray, List.set_cons_zero, List.set_cons_succ]
                  refine wpAnyH_take (i := 7) (v := .pointer (some ⟨gw, ow + k * 2, none⟩)) rfl (by kernel_rfl) (by kernel_rfl) (by kernel_rfl) (fun _ _ _ h => h) (Or.inl ⟨by kernel_rfl, ?_⟩) hHeld ?_
                  case refine_1 =>
                    rintro wx -
                    go_simp
                  change wpAnyH _ _ _ _ _ _ _ (Act.put _ (some 165) _) _
                  simp only [Act.put, List.setIfInBounds_toArray, List.set_cons_zero, List.set_cons_succ]
                  refine wpAnyH_take (i := 8) (v := .agg #[.string zn, .int .i64 zi]) rfl (by kernel_rfl) (by kernel_rfl) (by kernel_rfl) (fun _ _ _ h => h) (Or.inl ⟨by kernel_rfl, ?_⟩) hHeld ?_
                  case refine_1 =>
                    rintro wx ⟨s1, s2, s3, s4, s5, s6, s7⟩
                    go_simp
                  change wpAnyH _ _ _ _ _ _ _ (Act.put _ (some 166) _) _
                  simp only [Act.put, List.setIfInBounds_toArray, List.set_cons_zero, List.set_cons_succ]
                  refine wpAnyH_take (i := 9) (v := .bool false) rfl (by kernel_rfl) (by kernel_rfl) (by kernel_rfl) (fun _ _ _ h => h) (Or.inl ⟨by kernel_rfl, ?_⟩) hHeld ?_
                  case refine_1 =>
                    rintro wx -
                    go_simp
                  change wpAnyH _ _ _ _ _ _ _ (Act.put _ (some 167) _) _
                  simp only [Act.put, List.setIfInBounds_toArray, List.set_cons_zero, List.set_cons_succ]
                  refine wpAnyH_take (i := 10) (v := .bool false) rfl (by kernel_rfl) (by kernel_rfl) (by kernel_rfl) (fun _ _ _ h => h) (Or.inl ⟨by kernel_rfl, ?_⟩) hHeld ?_
                  case refine_1 =>
                    rintro wx -
                    go_simp
                  change wpAnyH _ _ _ _ _ _ _ (Act.put _ (some 168) _) _
                  simp only [Act.put, List.setIfInBounds_toArray, List.set_cons_zero, List.set_cons_succ]
                  refine wpAnyH_take (i := 11) (v := .slice (some ⟨gw, ow, none⟩) L wcp) rfl (by kernel_rfl) (by kernel_rfl) (by kernel_rfl) (fun _ _ _ h => h) (Or.inl ⟨by kernel_rfl, ?_⟩) hHeld ?_
                  case refine_1 =>
                    rintro wx -
                    go_simp
                  change wpAnyH _ _ _ _ _ _ _ (Act.put _ (some 169) _) _
                  simp only [Act.put, List.setIfInBounds_toArray, List.set_cons_zero, List.set_cons_succ]
                  refine wpAnyH_take (i := 12) (v := .int .i64 (k : Nat)) rfl (by kernel_rfl) (by kernel_rfl) (by kernel_rfl) (fun _ _ _ h => h) (Or.inl ⟨by kernel_rfl, ?_⟩) hHeld ?_
                  case refine_1 =>
                    rintro wx -
                    go_simp
                  change wpAnyH _ _ _ _ _ _ _ (Act.put _ (some 170) _) _
                  simp only [Act.put, List.setIfInBounds_toArray, List.set_cons_zero, List.set_cons_succ]
                  refine wpAnyH_take (i := 13) (v := .pointer (some ⟨gw, ow + k * 2, none⟩)) rfl (by kernel_rfl) (by kernel_rfl) (by kernel_rfl) (fun _ _ _ h => h) (Or.inl ⟨by kernel_rfl, ?_⟩) hHeld ?_
                  case refine_1 =>
                    rintro wx -
                    go_simp
                  change wpAnyH _ _ _ _ _ _ _ (Act.put _ (some 171) _) _
                  simp only [Act.put, List.setIfInBounds_toArray, List.set_cons_zero, List.set_cons_succ]
                  refine wpAnyH_take (i := 14) (v := .pointer (some ⟨gw, ow + k * 2, none⟩)) rfl (by kernel_rfl) (by kernel_rfl) (by kernel_rfl) (fun _ _ _ h => h) (Or.inl ⟨by kernel_rfl, ?_⟩) hHeld ?_
                  case refine_1 =>
                    rintro wx -
                    go_simp
                  change wpAnyH _ _ _ _ _ _ _ (Act.put _ (some 172) _) _
                  simp only [Act.put, List.setIfInBounds_toArray, List.set_cons_zero, List.set_cons_succ]
                  refine wpAnyH_take (i := 15) (v := .string zn) rfl (by kernel_rfl) (by kernel_rfl) (by kernel_rfl) (fun _ _ _ h => h) (Or.inl ⟨by kernel_rfl, ?_⟩) hHeld ?_
                  case refine_1 =>
                    rintro wx ⟨s1, s2, s3, s4, s5, s6, s7⟩
                    go_simp
                  change wpAnyH _ _ _ _ _ _ _ (Act.put _ (some 173) _) _
                  simp only [Act.put, List.setIfInBounds_toArray, List.set_cons_zero, List.set_cons_succ]
                  refine wpAnyH_take (i := 16) (v := .pointer (some ⟨n0 + 1, 0, none⟩)) rfl (by kernel_rfl) (by kernel_rfl) (by kernel_rfl) (fun _ _ _ h => h) (Or.inl ⟨by kernel_rfl, ?_⟩) hHeld ?_
                  case refine_1 =>
                    rintro wx -
                    go_simp
                  change wpAnyH _ _ _ _ _ _ _ (Act.put _ (some 174) _) _
                  simp only [Act.put, List.setIfInBounds_toArray, List.set_cons_zero, List.set_cons_succ]
                  refine wpAnyH_take (i := 17) (v := .string nm) rfl (by kernel_rfl) (by kernel_rfl) (by kernel_rfl) (fun _ _ _ h => h) (Or.inl ⟨by kernel_rfl, ?_⟩) hHeld ?_
                  case refine_1 =>
                    rintro wx ⟨s1, s2, s3, s4, s5, s6, s7⟩
                    go_simp
                  change wpAnyH _ _ _ _ _ _ _ (Act.put _ (some 175) _) _
                  simp only [Act.put, List.setIfInBounds_toArray, List.set_cons_zero, List.set_cons_succ]
                  refine wpAnyH_take (i := 18) (v := .bool true) rfl (by kernel_rfl) (by kernel_rfl) (by kernel_rfl) (fun _ _ _ h => h) (Or.inl ⟨by kernel_rfl, ?_⟩) hHeld ?_
                  case refine_1 =>
                    rintro wx -
                    go_simp
                  change wpAnyH _ _ _ _ _ _ _ (Act.put _ (some 176) _) _
                  simp only [Act.put, List.setIfInBounds_toArray, List.set_cons_zero, List.set_cons_succ]
                  refine wpAnyH_take (i := 19) (v := .bool true) rfl (by kernel_rfl) (by kernel_rfl) (by kernel_rfl) (fun _ _ _ h => h) (Or.inl ⟨by kernel_rfl, ?_⟩) hHeld ?_
                  case refine_1 =>
                    rintro wx -
                    go_simp
                  change wpAnyH _ _ _ _ _ _ _ (Act.put _ (some 177) _) _
                  simp only [Act.put, List.setIfInBounds_toArray, List.set_cons_zero, List.set_cons_succ]
                  refine wpAnyH_take (i := 20) (v := .pointer (some ⟨XB, 17, none⟩)) rfl (by kernel_rfl) (by kernel_rfl) (by kernel_rfl) (fun _ _ _ h => h) (Or.inl ⟨by kernel_rfl, ?_⟩) hHeld ?_
                  case refine_1 =>
                    rintro wx -
                    go_simp
                  change wpAnyH _ _ _ _ _ _ _ (Act.put _ (some 178) _) _
                  simp only [Act.put, List.setIfInBounds_toArray, List.set_cons_zero, List.set_cons_succ]
                  refine wpAnyH_take (i := 21) (v := .slice ba DL bc) rfl (by kernel_rfl) (by kernel_rfl) (by kernel_rfl) (fun _ _ _ h => h) (Or.inl ⟨by kernel_rfl, ?_⟩) hHeld ?_
                  case refine_1 =>
                    rintro wx ⟨s1, s2, s3, s4, s5, s6, s7⟩
                    go_simp
                  change wpAnyH _ _ _ _ _ _ _ (Act.put _ (some 179) _) _
                  simp only [Act.put, List.setIfInBounds_toArray, List.set_cons_zero, List.set_cons_succ]
                  refine wpAnyH_take (i := 22) (v := .slice (some ⟨gw, ow, none⟩) L wcp) rfl (by kernel_rfl) (by kernel_rfl) (by kernel_rfl) (fun _ _ _ h => h) (Or.inl ⟨by kernel_rfl, ?_⟩) hHeld ?_
                  case refine_1 =>
                    rintro wx -
                    go_simp
                  change wpAnyH _ _ _ _ _ _ _ (Act.put _ (some 180) _) _
                  simp only [Act.put, List.setIfInBounds_toArray, List.set_cons_zero, List.set_cons_succ]
                  refine wpAnyH_take (i := 23) (v := .int .i64 (k : Nat)) rfl (by kernel_rfl) (by kernel_rfl) (by kernel_rfl) (fun _ _ _ h => h) (Or.inl ⟨by kernel_rfl, ?_⟩) hHeld ?_
                  case refine_1 =>
                    rintro wx -
                    go_simp
                  change wpAnyH _ _ _ _ _ _ _ (Act.put _ (some 181) _) _
                  simp only [Act.put, List.setIfInBounds_toArray, List.set_cons_zero, List.set_cons_succ]
                  refine wpAnyH_take (i := 24) (v := .pointer (some ⟨gw, ow + k * 2, none⟩)) rfl (by kernel_rfl) (by kernel_rfl) (by kernel_rfl) (fun _ _ _ h => h) (Or.inl ⟨by kernel_rfl, ?_⟩) hHeld ?_
                  case refine_1 =>
                    rintro wx -
                    go_simp
                  change wpAnyH _ _ _ _ _ _ _ (Act.put _ (some 182) _) _
                  simp only [Act.put, List.setIfInBounds_toArray, List.set_cons_zero, List.set_cons_succ]
                  refine wpAnyH_take (i := 25) (v := .pointer (some ⟨gw, ow + k * 2, none⟩)) rfl (by kernel_rfl) (by kernel_rfl) (by kernel_rfl) (fun _ _ _ h => h) (Or.inl ⟨by kernel_rfl, ?_⟩) hHeld ?_
                  case refine_1 =>
                    rintro wx -
                    go_simp
                  change wpAnyH _ _ _ _ _ _ _ (Act.put _ (some 183) _) _
                  simp only [Act.put, List.setIfInBounds_toArray, List.set_cons_zero, List.set_cons_succ]
                  refine wpAnyH_take (i := 26) (v := .string zn) rfl (by kernel_rfl) (by kernel_rfl) (by kernel_rfl) (fun _ _ _ h => h) (Or.inl ⟨by kernel_rfl, ?_⟩) hHeld ?_
                  case refine_1 =>
                    rintro wx ⟨s1, s2, s3, s4, s5, s6, s7⟩
                    go_simp
                  change wpAnyH _ _ _ _ _ _ _ (Act.put _ (some 184) _) _
                  simp only [Act.put, List.setIfInBounds_toArray, List.set_cons_zero, List.set_cons_succ]
                  refine wpAnyH_take (i := 28) (v := .slice (some ⟨gw, ow, none⟩) L wcp) rfl (by kernel_rfl) (by kernel_rfl) (by kernel_rfl) (fun _ _ _ h => h) (Or.inl ⟨by kernel_rfl, ?_⟩) hHeld ?_
                  case refine_1 =>
                    rintro wx -
                    go_simp
                  change wpAnyH _ _ _ _ _ _ _ (Act.put _ (some 186) _) _
                  simp only [Act.put, List.setIfInBounds_toArray, List.set_cons_zero, List.set_cons_succ]
                  refine wpAnyH_take (i := 29) (v := .int .i64 (k : Nat)) rfl (by kernel_rfl) (by kernel_rfl) (by kernel_rfl) (fun _ _ _ h => h) (Or.inl ⟨by kernel_rfl, ?_⟩) hHeld ?_
                  case refine_1 =>
                    rintro wx -
                    go_simp
                  change wpAnyH _ _ _ _ _ _ _ (Act.put _ (some 187) _) _
                  simp only [Act.put, List.setIfInBounds_toArray, List.set_cons_zero, List.set_cons_succ]
                  refine wpAnyH_take (i := 30) (v := .pointer (some ⟨gw, ow + k * 2, none⟩)) rfl (by kernel_rfl) (by kernel_rfl) (by kernel_rfl) (fun _ _ _ h => h) (Or.inl ⟨by kernel_rfl, ?_⟩) hHeld ?_
                  case refine_1 =>
                    rintro wx -
                    go_simp
                  change wpAnyH _ _ _ _ _ _ _ (Act.put _ (some 188) _) _
                  simp only [Act.put, List.setIfInBounds_toArray, List.set_cons_zero, List.set_cons_succ]
                  refine wpAnyH_take (i := 31) (v := .pointer (some ⟨gw, ow + k * 2 + 1, none⟩)) rfl (by kernel_rfl) (by kernel_rfl) (by kernel_rfl) (fun _ _ _ h => h) (Or.inl ⟨by kernel_rfl, ?_⟩) hHeld ?_
                  case refine_1 =>
                    rintro wx -
                    go_simp
                  change wpAnyH _ _ _ _ _ _ _ (Act.put _ (some 189) _) _
                  simp only [Act.put, List.setIfInBounds_toArray, List.set_cons_zero, List.set_cons_succ]
                  refine wpAnyH_take (i := 32) (v := .int .i64 zi) rfl (by kernel_rfl) (by kernel_rfl) (by kernel_rfl) (fun _ _ _ h => h) (Or.inl ⟨by kernel_rfl, ?_⟩) hHeld ?_
                  case refine_1 =>
                    rintro wx ⟨s1, s2, s3, s4, s5, s6, s7⟩
                    go_simp
                  change wpAnyH _ _ _ _ _ _ _ (Act.put _ (some 190) _) _
                  simp only [Act.put, List.setIfInBounds_toArray, List.set_cons_zero, List.set_cons_succ]
                  refine wpAnyH_ready (rs := [27]) (by kernel_rfl) (by simp) ?_
                  refine AllReadyH.cons rfl (fun K hK => ?_) AllReadyH.nil
                  go_simp
                  refine (HRFB.out _ HDW.out).mono ?_
                  rintro e w' ⟨rfl, rfl⟩
                  go_wp2_with fail
                  refine hK.out _ _ (HSS.out _ HDW.out) (fun hHeld1 => ?_)
                  clear hK K
                  try simp only [Act.put, List.setIfInBounds_toArray, List.set_cons_zero, List.set_cons_succ]
                  refine wpAnyH_take (i := 33) (v := .bool false) rfl (by kernel_rfl) (by kernel_rfl) (by kernel_rfl) (fun _ _ _ h => h) (Or.inl ⟨by kernel_rfl, ?_⟩) hHeld1 ?_
                  case refine_1 =>
                    rintro wx -
                    go_simp
                  change wpAnyH _ _ _ _ _ _ _ (Act.put _ (some 191) _) _
                  simp only [Act.put, List.setIfInBounds_toArray, List.set_cons_zero, List.set_cons_succ]
                  refine wpAnyH_take (i := 34) (v := .bool false) rfl (by kernel_rfl) (by kernel_rfl) (by kernel_rfl) (fun _ _ _ h => h) (Or.inl ⟨by kernel_rfl, ?_⟩) hHeld1 ?_
                  case refine_1 =>
                    rintro wx -
                    go_simp
                  change wpAnyH _ _ _ _ _ _ _ (Act.put _ (some 192) _) _
                  simp only [Act.put, List.setIfInBounds_toArray, List.set_cons_zero, List.set_cons_succ]
                  refine wpAnyH_take (i := 35) (v := .bool false) rfl (by kernel_rfl) (by kernel_rfl) (by kernel_rfl) (fun _ _ _ h => h) (Or.inl ⟨by kernel_rfl, ?_⟩) hHeld1 ?_
                  case refine_1 =>
                    rintro wx -
                    go_simp
                  change wpAnyH _ _ _ _ _ _ _ (Act.put _ (some 193) _) _
                  simp only [Act.put, List.setIfInBounds_toArray, List.set_cons_zero, List.set_cons_succ]
                  refine wpAnyH_done (by kernel_rfl) ?_ _
                  refine NoPanic.normal ?_
                  clear HSS HDW hHeld hHeld1
                  go_wp2_with fail
                  go_roundg (gk - 1)
                  case measure => omega
                  case rel => exact ⟨k + 1, by omega, by go_num, HMV.out.drew⟩
              · have hkL : ¬ (k : Int) < (L : Int) := by omega
                go_wp2_with fail
                go_ret
                exact ⟨rfl, HBEL.out.trans ((HX11.out.step HMV.out (fun _ h => h)).below (by have := HZ.out; have := HN0.out; omega) (fun b h => h.elim))⟩
  · have hno : bf = false ∨ (bf = true ∧ 50 < nm.size) ∨ (bf = true ∧ nm.size ≤ 50 ∧ br = false) ∨ (bf = true ∧ nm.size ≤ 50 ∧ br = true ∧ n.kind ≠ 2) := by
      cases bf
      · exact .inl rfl
      · by_cases h : nm.size ≤ 50
        · cases br
          · exact .inr (.inr (.inl ⟨rfl, h, rfl⟩))
          · exact .inr (.inr (.inr ⟨rfl, h, rfl, fun hk => hgo ⟨rfl, h, rfl, hk⟩⟩))
        · exact .inr (.inl ⟨rfl, by omega⟩)
    clear hgo
    generalize n.kind = kd at *
    rcases hno with rfl | ⟨rfl, h50⟩ | ⟨rfl, h50, rfl⟩ | ⟨rfl, h50, rfl, hkd⟩
    all_goals
      try (have h50d : decide ((50 : Int) < (nm.size : Int)) = true := decide_eq_true (by omega))
      try (have h50d : decide ((50 : Int) < (nm.size : Int)) = false := decide_eq_false (by omega))
      go_upto_if 37 with (first
        | (go_at_call 9; (with_reducible refine (HAW.out _).mono ?_); (rintro e wz ⟨rfl, hbz⟩; have HX := Lib.hid (HX.out.step (mod_of_below hbz) (fun _ h => h)); have HRA := Lib.hid ((HA0.out.mod HX.out (fun h => h)).at.range HNO.out.len); have x0 := (mod_of_below hbz).cell x0 (fun h => h); have c1 := (mod_of_below hbz).cell c1 (fun h => h); clear hbz))
        | ((refine wpList_unguard (o := ⟨some 18, _, _, _, _, _⟩) (by rfl) ?_; with_reducible refine wpList_load_mid (op := ⟨some 18, _, _, _, _, _⟩) rfl 25 _ rfl n0 0 rfl (inoL n (.slice ea L ec)) _ HRA.out Try.underlying25 rfl HSA.out ?_))
        | (go_at_call 10; (with_reducible refine (HFA.out _ HX.out).mono ?_); (rintro e wz ⟨rfl, hbz⟩; have HX := Lib.hid (HX.out.step (mod_of_below hbz) (fun _ h => h)); have HRA := Lib.hid ((HA0.out.mod HX.out (fun h => h)).at.range HNO.out.len); have x0 := (mod_of_below hbz).cell x0 (fun h => h); have c1 := (mod_of_below hbz).cell c1 (fun h => h); clear hbz))
        | ((refine wpList_unguard (o := ⟨some 29, _, _, _, _, _⟩) (by rfl) ?_; with_reducible refine wpList_load_mid (op := ⟨some 29, _, _, _, _, _⟩) rfl 25 _ rfl n0 0 rfl (inoL n (.slice ea L ec)) _ HRA.out Try.underlying25 rfl HSA.out ?_))
        | (go_at_call 11; (with_reducible refine (HRI.out _ HX.out).mono ?_); (rintro e wz ⟨rfl, hbz⟩; have HX := Lib.hid (HX.out.step (mod_of_below hbz) (fun _ h => h)); have HRA := Lib.hid ((HA0.out.mod HX.out (fun h => h)).at.range HNO.out.len); have x0 := (mod_of_below hbz).cell x0 (fun h => h); have c1 := (mod_of_below hbz).cell c1 (fun h => h); clear hbz)))
      go_wp2_with fail
      refine (HAW.out _).mono ?_
      rintro e we ⟨rfl, hbz⟩
      have HX := Lib.hid (HX.out.step (mod_of_below hbz) (fun _ h => h))
      clear hbz
      go_wp2_with fail
      go_ret
      exact ⟨rfl, HBEL.out.trans (HX.out.below (by have := HZ.out; have := HN0.out; omega) (fun b h => h.elim))⟩
end Go.Proofs.Ytlopdbhjdijlmaa
