/-
  imagoref06.Word of inodes that are right: a contract.
-/
import Derived.Test.YtfpnmphmngdkdaaRefNeed
import Derived.Test.YtfpnmphmngdkdaaLayTake
namespace Go.Proofs.Ytfpnmphmngdkdaa
open Go.ChangeShapes Go.WideShapes Go.ChangeAt Go.RowKit
set_option linter.unusedSimpArgs false
set_option linter.unusedVariables false

/-- A word of an own block. -/
def blkW (n : Ino) (own : List Nat) (k : Nat) (r : Nat) : Int := if k = need1 n then (blOf n own).getD (5 + r) 0 else if 4 * k + r / 2 < n.ents.length then entV n.ents (4 * k + r / 2) r else 0
/-- The first own block that has a place, from a block on. -/
def hitW (n : Ino) (own : List Nat) (i : Int) : Nat → Nat → Int × Bool
  | _, 0 => (0, false)
  | k, f + 1 => if 0 ≤ i - 1080 - 8 * ((own.getD k 0 : Nat) : Int) ∧ i - 1080 - 8 * ((own.getD k 0 : Nat) : Int) ≤ 7 then (blkW n own k (i - 1080 - 8 * ((own.getD k 0 : Nat) : Int)).toNat, true) else hitW n own i (k + 1) f
noncomputable def wordAt (n : Ino) (at_ : Int) (own : List Nat) (i : Int) : Int × Bool :=
  if i = at_ then (tagW n, true) else if i = at_ + 1 then (n.size, true) else if at_ + 2 ≤ i ∧ i < at_ + 7 then ((blOf n own).getD (i - at_ - 2).toNat 0, true)
  else if i = at_ + 7 then (if more1 n = 1 then ((own.getD (need1 n) 0 : Nat) : Int) else 0, true) else hitW n own i 0 own.length

theorem blOf_set (n : Ino) (hl : n.bl.length = 13) (own : List Nat) (k : Nat) (hk : k < own.length) (h13 : k < 13) :
    ((own.take k).map (fun (b : Nat) => (b : Int)) ++ n.bl.drop k).set k ((own.getD k 0 : Nat) : Int) = (own.take (k + 1)).map (fun (b : Nat) => (b : Int)) ++ n.bl.drop (k + 1) := by
  have h1 : ((own.take k).map (fun (b : Nat) => (b : Int))).length = k := by simp; omega
  rw [List.set_append_right _ _ (by omega), h1, Nat.sub_self, List.drop_eq_getElem_cons (by omega), List.set_cons_zero, List.take_succ_eq_append_getElem hk, List.map_append, List.append_assoc]
  congr 2
  rw [List.getD_eq_getElem?_getD, List.getElem?_eq_getElem hk]
  rfl

/-- An array of thirteen in a block of its own. -/
def Arr13 (w : World) (B : Nat) (l : List Int) : Prop := w.heap[B]? = some (.cells (l.map (Value.int .i64)).toArray 34 (0, 0)) ∧ l.length = 13
theorem Arr13.cell {w : World} {B : Nat} {l : List Int} (h : Arr13 w B l) (k : Nat) (hk : k < 13) : w.cell? ⟨B, k, none⟩ = some (.int .i64 (l.getD k 0)) := by
  rw [cell_of_row _ _ _ _ _ _ h.1]
  have hkl : k < l.length := by rw [h.2]; exact hk
  simp [hkl]
theorem Arr13.frozen {w : World} {B : Nat} {l : List Int} (h : Arr13 w B l) (k : Nat) : w.frozen? ⟨B, k, none⟩ = false := frozen_of_row _ _ _ _ _ h.1
theorem Arr13.set {w : World} {B : Nat} {l : List Int} (h : Arr13 w B l) (k : Nat) (x : Int) : Arr13 (w.setCell ⟨B, k, none⟩ (.int .i64 x)) B (l.set k x) := by
  refine ⟨?_, by rw [List.length_set]; exact h.2⟩
  rw [heap_setCell_same _ _ _ _ _ _ h.1]
  congr 2
  apply Array.toList_inj.1
  simp [List.map_set]
theorem Arr13.mod {w w' : World} {B : Nat} {l : List Int} (h : Arr13 w B l) {D : Nat → Prop} (hm : Mod D w w') (hd : ¬ D B) : Arr13 w' B l := ⟨hm.heap h.1 hd, h.2⟩

set_option maxRecDepth 20000 in
set_option maxHeartbeats 8000000 in
theorem ref_wordat {w : World} {n : Ino} {ev bv : Value} {own : List Nat} (hn : n.Ok) (he : HoldsE w ev n.ents) (hv : HoldsN w bv own) (hr : RightP n) (hon : own.length = need1 n + more1 n) (hob : ∀ b ∈ own, b < 256) (at_ : Int) (ha : 820 ≤ at_ ∧ at_ ≤ 1072) (i : Int) (hi : 0 ≤ i ∧ i < 4000) :
    Calls Try.prog 31 #[.agg (inoA n ev), .int .i64 at_, bv, .int .i64 i] w fun e w' => e = .returned (.tuple #[.int .u64 (wordAt n at_ own i).1, .bool (wordAt n at_ own i).2]) ∧ Below w.heap.size w w' := by
  have HNO := Lib.hid hn
  have HR := Lib.hid hr
  have HON := Lib.hid hon
  have HOB := Lib.hid hob
  have hb0 := InoB.new w hn.len ev
  have HB0 := Lib.hid hb0
  have HBEL : Hid (Below w.heap.size w (w.alloc (.cells (inoA n ev) 37))) := (Below.refl _ _).alloc (Nat.le_refl _) _
  have HE := Lib.hid (he.below HBEL.out)
  have HV := Lib.hid (hv.below HBEL.out)
  obtain ⟨ao, c, rfl, e1, e2, -, -⟩ := he
  obtain ⟨ta, tc, rfl, t1, t2, -, -⟩ := hv
  obtain ⟨L, hL⟩ : ∃ L, L = n.ents.length := ⟨_, rfl⟩
  obtain ⟨M, hM⟩ : ∃ M, M = own.length := ⟨_, rfl⟩
  have hL24 := hr.ents
  obtain ⟨nd, hnd⟩ : ∃ nd, nd = need1 n := ⟨_, rfl⟩
  obtain ⟨mo, hmo⟩ : ∃ mo, mo = more1 n := ⟨_, rfl⟩
  have hnd6 : nd ≤ 6 := by rw [hnd]; exact need1_le hr
  have hmo1 : mo ≤ 1 := by rw [hmo]; exact more1_le n
  have hMM : M = nd + mo := by rw [hM, hon, hnd, hmo]
  rw [← hL] at HB0 HE e1 HBEL HV hL24 hb0 ⊢
  rw [← hM] at HV t1 ⊢
  have hLs : 4 * nd < L + 4 ∧ L ≤ 4 * nd := by
    have := hnd
    unfold need1 at this
    rw [← hL] at this
    omega
  unfold maxLen at e2 t2
  have HLL := Lib.hid hL
  have HML := Lib.hid hM
  have HND := Lib.hid hnd
  have HMO := Lib.hid hmo
  have HMM := Lib.hid hMM
  have HLS := Lib.hid hLs
  have HRA := Lib.hid (hb0.at.range hn.len)
  have HRB := Lib.hid (hb0.at.blocks hn.len)
  have HSA : Hid ((Try.prog.info? 37).map (·.size) = some (inoL n (.slice ao L c)).length) := by
    unfold Hid; rw [inoL_len hn.len]; exact Try.info18
  have HSB : Hid ((Try.prog.info? 34).map (·.size) = some (n.bl.map (Value.int .i64)).length) := by
    unfold Hid; rw [List.length_map, hn.len]; exact Try.info13
  have HNEED : Hid (Calls Try.prog 28 #[.agg (inoL n (.slice ao L c)).toArray] (w.alloc (.cells (inoA n (.slice ao L c)) 37)) fun e w' => e = .returned (.tuple #[.int .i64 (nd : Nat), .int .i64 (mo : Nat)]) ∧ Below (w.alloc (.cells (inoA n (.slice ao L c)) 37)).heap.size (w.alloc (.cells (inoA n (.slice ao L c)) 37)) w') := by
    rw [hnd, hmo]
    exact ref_need hn HE.out hr
  have hs0 : (w.alloc (.cells (inoA n (.slice ao L c)) 37)).heap.size = w.heap.size + 1 := by simp
  have HS0 := Lib.hid hs0
  obtain ⟨a0, a1⟩ := ha
  obtain ⟨i0, i1⟩ := hi
  clear hn hr hon hob hb0 hL hM hnd hmo hMM hLs hs0
  go_enter Try.func31, Try.ntmps31
  go_wp2_with (with_reducible refine wpList_load_mid (op := ⟨some 19, _, _, _, _, _⟩) rfl 37 _ rfl w.heap.size 0 rfl (inoL n (.slice ao L c)) _ HRA.out Try.underlying37 rfl HSA.out ?_)
  generalize w.alloc (.cells (inoA n (.slice ao L c)) 37) = w0 at *
  refine HNEED.out.mono ?_
  rintro e w1 ⟨rfl, hb1⟩
  have HM1 : Hid (Mod nob w0 w1) := mod_of_below hb1
  have HRB1 := Lib.hid ((HB0.out.mod HM1.out (fun h => h)).at.blocks HNO.out.len)
  have HTH : Hid ((w1.alloc (.cells z13 34)).there w1.heap.size 0 (n.bl.map (Value.int .i64)).toArray.size) := by
    unfold Hid
    rw [show (n.bl.map (Value.int .i64)).toArray.size = 13 by simp [HNO.out.len]]
    exact arr_there w1 _
  have HISZ : Hid ((Try.prog.info? 34).map (·.size) = some (n.bl.map (Value.int .i64)).toArray.size) := by
    unfold Hid
    rw [show (n.bl.map (Value.int .i64)).toArray.size = 13 by simp [HNO.out.len]]
    exact Try.info13
  have HONE : Hid ((n.bl.map (Value.int .i64)).toArray.all (·.oneCell') = true) := all_oneCell_toArray (ints_oneCell _ _)
  have HROW := Lib.hid (arr_row w1 34 (n.bl.map (Value.int .i64)) (by rw [List.length_map]; exact HNO.out.len))
  clear hb1
  go_upto_region 3 with (first
    | (with_reducible refine wpList_load_mid (op := ⟨some 24, _, _, _, _, _⟩) rfl 34 _ rfl w.heap.size (0 + 4) rfl (n.bl.map (Value.int .i64)) _ HRB1.out Try.underlying34 rfl HSB.out ?_)
    | (with_reducible refine wpList_store_mid (op := ⟨none, _, _, _, _, _⟩) rfl 34 _ _ rfl w1.heap.size 0 (n.bl.map (Value.int .i64)).toArray rfl rfl HTH.out HISZ.out HONE.out ?_))
  obtain ⟨Bl, hBl⟩ : ∃ Bl, Bl = w1.heap.size := ⟨_, rfl⟩
  have HA2 : Hid (Arr13 ((w1.alloc (.cells z13 34)).setCells w1.heap.size 0 (n.bl.map (Value.int .i64))) w1.heap.size n.bl) := ⟨HROW.out.1, HNO.out.len⟩
  have HM2 : Hid (Mod nob w0 ((w1.alloc (.cells z13 34)).setCells w1.heap.size 0 (n.bl.map (Value.int .i64)))) := HM1.out.step (mod_of_below HROW.out.2) (fun _ h => h)
  generalize (w1.alloc (.cells z13 34)).setCells w1.heap.size 0 (n.bl.map (Value.int .i64)) = w2 at *
  rw [← hBl] at HA2 ⊢
  have HBG : Hid (w0.heap.size ≤ Bl) := by have := HM1.out.size; unfold Hid; omega
  clear HROW HTH HISZ HONE HRB1 HNEED HRA HRB hBl HSB
  go_wp2_with fail
  go_loopg [13] nd (fun gk iv wr => ∃ k : Nat, k + gk = nd ∧ iv = .int .i64 k ∧ Hid (Arr13 wr Bl ((own.take k).map (fun (b : Nat) => (b : Int)) ++ n.bl.drop k)) ∧ Hid (Mod (fun b => b = Bl) w2 wr))
  case atStart => exact ⟨0, by omega, rfl, HA2, Mod.refl _ _⟩
  case round =>
    obtain ⟨k, hk, rfl, HAK, HW⟩ := hrel
    have HVK : Hid (HoldsN wr (.slice ta M tc) own) := (HV.out.mod HM2.out (fun _ _ _ h => h)).mod HW.out (fun h0 g hg e => by have h1 := HV.out.lt h0 g hg; have h2 := HBG.out; omega)
    by_cases hlt : k < nd
    · have hki : (k : Int) < (nd : Int) := by omega
      have hk13 : (k : Int) < 13 := by omega
      have hkM : (k : Int) < (M : Int) := by have := HMM.out; omega
      obtain ⟨ao', c', e, -, -, -, hcx⟩ := HVK.out
      simp only [Value.slice.injEq] at e
      obtain ⟨rfl, -, rfl⟩ := e
      have hkl : k < own.length := by have := HMM.out; have := HML.out; omega
      obtain ⟨g, o, rfl, d1⟩ := hcx k hkl
      have d2 := HAK.out.cell k (by omega)
      have f2 := HAK.out.frozen k
      have hset := HAK.out.set k ((own.getD k 0 : Nat) : Int)
      rw [blOf_set n HNO.out.len own k hkl (by omega)] at hset
      have HSET := Lib.hid hset
      clear hcx hset
      generalize own.getD k 0 = x at *
      generalize ((own.take k).map (fun (b : Nat) => (b : Int)) ++ n.bl.drop k).getD k 0 = y at *
      go_wp2_with fail
      go_roundg (gk - 1)
      case measure => omega
      case rel => exact ⟨k + 1, by omega, by go_num, HSET.out, HW.out.setCell (a := ⟨Bl, k, none⟩) (.inl rfl) _⟩
    · have hki : ¬ (k : Int) < (nd : Int) := by omega
      have HAL : Hid (Arr13 wr Bl (blOf n own)) := by
        have h1 := HAK.out
        rw [show k = need1 n by rw [← HND.out]; omega] at h1
        exact h1
      obtain rfl : k = nd := by omega
      have HB2 : Hid (InoB wr w.heap.size n (.slice ao L c)) := (HB0.out.mod HM2.out (fun h => h)).mod HW.out (fun e => by have h1 := HB0.out.lt; have h2 := HBG.out; omega)
      have HE2 : Hid (HoldsE wr (.slice ao L c) n.ents) := (HE.out.mod HM2.out (fun _ _ _ h => h)).mod HW.out (fun h0 g hg e => by have h1 := HE.out.lt h0 g hg; have h2 := HBG.out; omega)
      have HBW : Hid (Below w.heap.size w wr) := by
        refine HBEL.out.trans ((HM2.out.below HBEL.out.size (fun b h => h.elim)).trans (HW.out.below ?_ ?_))
        · have h1 := HM2.out.size; have h2 := HBEL.out.size; omega
        · intro b hb; have h1 := HBG.out; have h2 := HBEL.out.size; omega
      have HRNG : Hid (∀ q, q < 13 → 0 ≤ (blOf n own).getD q 0 ∧ (blOf n own).getD q 0 < 256) := by
        intro q hq
        rw [blOf_get HNO.out.len own (by rw [HON.out]; omega) q hq]
        split
        · rename_i h
          have := HOB.out _ (getD_in (l := own) (a := q) (by have := HON.out; omega))
          omega
        · exact HR.out.blk q hq
      clear HAK HA2 HM2 HB0 HE HBEL HV HM1
      by_cases hA : i = at_
      · subst hA
        have hw0 : wordAt n i own i = (tagW n, true) := by unfold wordAt; rw [if_pos rfl]
        have HW0 := Lib.hid hw0
        have HRA := Lib.hid (HB2.out.at.range HNO.out.len)
        have HTAG : Hid (Calls Try.prog 91 #[.agg (inoL n (.slice ao L c)).toArray] wr fun e w' => e = .returned (.int .u64 (tagW n)) ∧ Below wr.heap.size wr w') := ref_tag HNO.out.len (by obtain ⟨s1, s2, s3, s4⟩ := HR.out.small; exact ⟨s1, s2, s3⟩)
        clear hw0
        go_wp2_with (first
          | (with_reducible refine wpList_load_mid (op := ⟨some 41, _, _, _, _, _⟩) rfl 37 _ rfl w.heap.size 0 rfl (inoL n (.slice ao L c)) _ HRA.out Try.underlying37 rfl HSA.out ?_)
          | (go_at_call 91; refine HTAG.out.mono ?_; rintro e wt ⟨rfl, hbt⟩))
        go_ret2
        refine ⟨?_, HBW.out.trans (hbt.mono HBW.out.size)⟩
        rw [HW0.out]
        rfl
      · by_cases hB : i = at_ + 1
        · have hw0 : wordAt n at_ own i = (n.size, true) := by unfold wordAt; rw [if_neg hA, if_pos hB]
          have HW0 := Lib.hid hw0
          have c3 := HB2.out.at.c3
          simp only [Nat.zero_add] at c3
          obtain ⟨s1, s2, s3, s4, s5⟩ := HR.out.small
          obtain ⟨sz, hsz⟩ : ∃ sz, sz = n.size := ⟨_, rfl⟩
          rw [← hsz] at c3 s4 s5 HW0
          have hd : i - at_ = 1 := by omega
          clear hw0 hsz hA hB
          go_wp2_with fail
          go_ret2
          refine ⟨?_, HBW.out⟩
          rw [HW0.out]
          rfl
        · by_cases hC : at_ + 2 ≤ i ∧ i < at_ + 7
          · have hw0 : wordAt n at_ own i = ((blOf n own).getD (i - at_ - 2).toNat 0, true) := by unfold wordAt; rw [if_neg hA, if_neg hB, if_pos hC]
            obtain ⟨q, hq⟩ : ∃ q : Nat, q = (i - at_ - 2).toNat := ⟨_, rfl⟩
            have hq13 : q < 13 := by omega
            have hd : i - at_ = (q : Int) + 2 := by omega
            have hd2 : (q : Int) + 2 - 2 = (q : Int) := by omega
            have hqb : (q : Int) < 5 := by omega
            rw [← hq] at hw0
            have HW0 := Lib.hid hw0
            have d1 := HAL.out.cell q hq13
            have hx := HRNG.out q hq13
            obtain ⟨x, hxx⟩ : ∃ x, x = (blOf n own).getD q 0 := ⟨_, rfl⟩
            rw [← hxx] at d1 hx HW0
            obtain ⟨x0, x1⟩ := hx
            clear hw0 hq hxx hA hB hC
            go_wp2_with fail
            go_ret2
            refine ⟨?_, HBW.out⟩
            rw [HW0.out]
            rfl
          · by_cases hD : i = at_ + 7
            · have hd : i - at_ = 7 := by omega
              by_cases hm1 : mo = 1
              · have hw0 : wordAt n at_ own i = (((own.getD k 0 : Nat) : Int), true) := by unfold wordAt; rw [if_neg hA, if_neg hB, if_neg hC, if_pos hD, if_pos (by rw [← HMO.out]; exact hm1), ← HND.out]
                have HW0 := Lib.hid hw0
                have hkM : (k : Int) < (M : Int) := by have := HMM.out; omega
                have hkl : k < own.length := by have := HMM.out; have := HML.out; omega
                obtain ⟨ao', c', e, -, -, -, hcx⟩ := HVK.out
                simp only [Value.slice.injEq] at e
                obtain ⟨rfl, -, rfl⟩ := e
                obtain ⟨g, o, rfl, d1⟩ := hcx k hkl
                have hx := HOB.out _ (getD_in hkl)
                generalize own.getD k 0 = x at *
                have hxi : (x : Int) < 256 := by omega
                subst hm1
                clear hw0 hA hB hC hD hcx
                go_wp2_with fail
                go_ret2
                refine ⟨?_, HBW.out⟩
                rw [HW0.out]
                rfl
              · have hw0 : wordAt n at_ own i = (0, true) := by unfold wordAt; rw [if_neg hA, if_neg hB, if_neg hC, if_pos hD, if_neg (by rw [← HMO.out]; exact hm1)]
                have HW0 := Lib.hid hw0
                obtain rfl : mo = 0 := by omega
                clear hw0 hA hB hC hD
                go_wp2_with fail
                go_ret2
                refine ⟨?_, HBW.out⟩
                rw [HW0.out]
                rfl
            · have hw0 : wordAt n at_ own i = hitW n own i 0 own.length := by unfold wordAt; rw [if_neg hA, if_neg hB, if_neg hC, if_neg hD]
              rw [← HML.out] at hw0
              have HW0 := Lib.hid hw0
              have hd0 : ¬ i - at_ = 0 := by omega
              have hd1 : ¬ i - at_ = 1 := by omega
              have hd7 : ¬ i - at_ = 7 := by omega
              have hd2 : i - at_ < 2 ∨ 7 ≤ i - at_ := by omega
              clear hw0 hA hB hC hD
              rcases hd2 with hd2 | hd2
              all_goals
                go_upto_region 18 with (fail)
                clear hd0 hd1 hd7 hd2
                go_wp2_with fail
                go_loopg [15] M (fun gk iv wx => ∃ j : Nat, j + gk = M ∧ iv = .int .i64 j ∧ Hid (hitW n own i 0 M = hitW n own i j gk) ∧ wr = wx)
                case atStart => exact ⟨0, by omega, rfl, rfl, rfl⟩
                case round =>
                  obtain ⟨j, hj, rfl, HH, rfl⟩ := hrel
                  by_cases hlt : j < M
                  · have hji : (j : Int) < (M : Int) := by omega
                    have hj7 : (j : Int) ≤ 7 := by have := HMM.out; omega
                    have hj0 : (0 : Int) ≤ (j : Int) := Int.natCast_nonneg _
                    have hjl : j < own.length := by have := HML.out; omega
                    obtain ⟨ao', c', e, -, -, -, hcx⟩ := HVK.out
                    simp only [Value.slice.injEq] at e
                    obtain ⟨rfl, -, rfl⟩ := e
                    obtain ⟨g, o, rfl, d1⟩ := hcx j hjl
                    have hx := HOB.out _ (getD_in hjl)
                    obtain ⟨f, rfl⟩ : ∃ f, gk = f + 1 := ⟨gk - 1, by omega⟩
                    have hstep : hitW n own i j (f + 1) = if 0 ≤ i - 1080 - 8 * ((own.getD j 0 : Nat) : Int) ∧ i - 1080 - 8 * ((own.getD j 0 : Nat) : Int) ≤ 7 then (blkW n own j (i - 1080 - 8 * ((own.getD j 0 : Nat) : Int)).toNat, true) else hitW n own i (j + 1) f := rfl
                    obtain ⟨x, hxx⟩ : ∃ x, x = own.getD j 0 := ⟨_, rfl⟩
                    rw [← hxx] at d1 hx hstep
                    have hxi : (x : Int) < 256 := by omega
                    clear hcx hxx
                    by_cases hz : i - 1080 - 8 * (x : Int) < 0 ∨ 7 < i - 1080 - 8 * (x : Int)
                    · rw [if_neg (by omega)] at hstep
                      have HST := Lib.hid hstep
                      clear hstep
                      rcases hz with hz | hz
                      · go_wp2_with fail
                        go_roundg f
                        case measure => omega
                        case rel => exact ⟨j + 1, by omega, by go_num, HH.out.trans HST.out, rfl⟩
                      · have hz0 : ¬ i - 1080 - 8 * (x : Int) < 0 := by omega
                        go_wp2_with fail
                        go_roundg f
                        case measure => omega
                        case rel => exact ⟨j + 1, by omega, by go_num, HH.out.trans HST.out, rfl⟩
                    · rw [if_pos (by omega)] at hstep
                      obtain ⟨r, hr⟩ : ∃ r : Nat, r = (i - 1080 - 8 * (x : Int)).toNat := ⟨_, rfl⟩
                      rw [← hr] at hstep
                      have hri : i - 1080 - 8 * (x : Int) = (r : Int) := by omega
                      have hr8 : r < 8 := by omega
                      have hr8i : (r : Int) < 8 := by omega
                      have hres := (HW0.out.trans HH.out).trans hstep
                      have HRES := Lib.hid hres
                      have HR8 := Lib.hid hr8
                      clear hz hr hstep hres
                      by_cases hjk : j = k
                      · subst hjk
                        have hb : blkW n own j r = (blOf n own).getD (5 + r) 0 := by unfold blkW; rw [if_pos HND.out]
                        have HBV := Lib.hid hb
                        obtain ⟨q, hq⟩ : ∃ q : Nat, q = 5 + r := ⟨_, rfl⟩
                        have hqi : 5 + (r : Int) = (q : Int) := by omega
                        have hq13 : (q : Int) < 13 := by omega
                        have d2 := HAL.out.cell q (by omega)
                        have hy := HRNG.out q (by omega)
                        obtain ⟨y, hyy⟩ : ∃ y, y = (blOf n own).getD q 0 := ⟨_, rfl⟩
                        rw [← hyy] at d2 hy
                        have HYY : Hid (blkW n own j r = y) := by unfold Hid; rw [hb, ← hq, hyy]
                        obtain ⟨y0, y1⟩ := hy
                        clear hb hyy hq hr8
                        go_wp2_with fail
                        all_goals
                          go_ret2
                          rw [HRES.out, HYY.out]
                          exact ⟨by first | rfl | trivial, HBW.out⟩
                      · have hjk2 : j < k := by have := HMM.out; omega
                        have hjki : ((j : Int) == (k : Int)) = false := beq_false_of_ne (by omega)
                        have hb : blkW n own j r = if 4 * j + r / 2 < n.ents.length then entV n.ents (4 * j + r / 2) r else 0 := by unfold blkW; rw [if_neg (by rw [← HND.out]; omega)]
                        obtain ⟨q, hq⟩ : ∃ q : Nat, q = 4 * j + r / 2 := ⟨_, rfl⟩
                        rw [← hq, ← HLL.out] at hb
                        have hqi : 4 * (j : Int) + (r : Int) / 2 = (q : Int) := by omega
                        have hq0 : (q : Int) < 40 := by omega
                        have hr2 : (0 : Int) ≤ (r : Int) / 2 ∧ (r : Int) / 2 < 4 := by omega
                        obtain ⟨hr20, hr24⟩ := hr2
                        clear hq hjk hr8
                        by_cases hqL : q < L
                        · have hqLi : (q : Int) < (L : Int) := by omega
                          rw [if_pos hqL] at hb
                          obtain ⟨ao', c', e, -, -, -, hce⟩ := HE2.out
                          simp only [Value.slice.injEq] at e
                          obtain ⟨rfl, -, rfl⟩ := e
                          obtain ⟨g2, o2, rfl, d2, d3⟩ := hce q (by rw [← HLL.out]; exact hqL)
                          obtain ⟨g1, -, g2', g3'⟩ := HR.out.entOK q (by rw [← HLL.out]; exact hqL)
                          have c17 := HB2.out.at.ev
                          simp only [Nat.zero_add] at c17
                          unfold entV at hb
                          have hwd : ∀ wx, Calls Try.prog 92 #[.string (n.ents.getD q default).name] wx fun e w' => e = .returned (.int .u64 (nword (n.ents.getD q default).name : Nat)) ∧ wx = w' := fun wx => ref_word _ (good_size g1).2 wx
                          have HWD := Lib.hid hwd
                          clear hwd hce g1
                          generalize (n.ents.getD q default).name = nm at *
                          generalize (n.ents.getD q default).ino = ino at *
                          by_cases hev : r % 2 = 0
                          · have hevi : (r : Int) % 2 = 0 := by omega
                            rw [if_pos hev] at hb
                            have HBV := Lib.hid hb
                            clear hb hev
                            go_wp2_with (go_at_call 92; refine (HWD.out _).mono ?_; rintro e wx ⟨rfl, rfl⟩)
                            all_goals
                              go_ret2
                              refine ⟨?_, HBW.out⟩
                              rw [HRES.out, HBV.out]
                              try rfl
                          · have hevi : (r : Int) % 2 = 1 := by omega
                            rw [if_neg hev] at hb
                            have HBV := Lib.hid hb
                            clear hb hev
                            go_wp2_with fail
                            all_goals
                              go_ret2
                              refine ⟨?_, HBW.out⟩
                              rw [HRES.out, HBV.out]
                              try rfl
                        · have hqLi : ¬ (q : Int) < (L : Int) := by omega
                          have c17 := HB2.out.at.ev
                          simp only [Nat.zero_add] at c17
                          rw [if_neg hqL] at hb
                          have HBV := Lib.hid hb
                          clear hb
                          go_wp2_with fail
                          all_goals
                            go_ret2
                            refine ⟨?_, HBW.out⟩
                            rw [HRES.out, HBV.out]
                            try rfl
                  · have hge : ¬ (j : Int) < (M : Int) := by omega
                    obtain rfl : gk = 0 := by omega
                    have hres : wordAt n at_ own i = (0, false) := HW0.out.trans HH.out
                    have HRES := Lib.hid hres
                    clear hres
                    go_wp2_with fail
                    all_goals
                      go_ret2
                      refine ⟨?_, HBW.out⟩
                      rw [HRES.out]
                      rfl
end Go.Proofs.Ytfpnmphmngdkdaa
