/-
  What fmt1.Lay answers: contracts. No condition but the bounds that are typed.
-/
import Derived.Test.YtlopdbhjdijlmaaQLay1
import Derived.Laws.CopyOwn
import Derived.Deep.RegionLaw

namespace Go.Proofs.Ytlopdbhjdijlmaa
open Go.ChangeShapes Go.WideShapes Go.ChangeAt Go.RowKit
set_option linter.unusedSimpArgs false
set_option linter.unusedVariables false

/-- It can't be laid. -/
def LayBad (i : Int) (n : Ino) : Prop := i < 0 ∨ 32 ≤ i ∨ ¬ RightP n ∨ n.format ≠ 1

set_option maxRecDepth 20000 in
set_option maxHeartbeats 4000000 in
theorem lay1_bad {w : World} {p : Nat} {D : Nat → Prop} {S : Sh} (h : SheetAt w p D S) (i : Int) {n : Ino} {ev : Value} (hn : n.Ok) (he : HoldsE w ev n.ents) (hbad : LayBad i n) :
    Calls Try.prog 56 #[.pointer (some ⟨p, 0, none⟩), .int .i64 i, .agg (inoA n ev)] w fun e w' => e = .returned (.int .i64 1) ∧ ShStep w p D w' S := by
  have hb := InoB.new w hn.len ev
  have HB := Lib.hid hb
  have HNO := Lib.hid hn
  have HSH := Lib.hid h
  have hlen : (inoL n ev).length = 18 := inoL_len hn.len ev
  have HLEN := Lib.hid hlen
  have HRG := Lib.hid (hb.at.range hn.len)
  have c0 := hb.at.c0
  have HBEL : Hid (Below w.heap.size w (w.alloc (.cells (inoA n ev) 25))) := (Below.refl _ _).alloc (Nat.le_refl _) _
  have HM0 : Hid (Mod nob w (w.alloc (.cells (inoA n ev) 25))) := (Mod.refl nob w).alloc _
  have hBs : w.heap.size < (w.alloc (.cells (inoA n ev) 25)).heap.size := by simp
  have HRI : Hid (Calls Try.prog 54 #[.agg (inoL n ev).toArray] (w.alloc (.cells (inoA n ev) 25)) fun e w' => e = .returned (.bool (rightB n)) ∧ Below (w.alloc (.cells (inoA n ev) 25)).heap.size (w.alloc (.cells (inoA n ev) 25)) w') := right_any hn (he.below HBEL.out)
  have HIN : Hid (∀ wx, Calls Try.prog 53 #[.int .i64 i] wx fun e w' => e = .returned (.int .i64 (inoAt i)) ∧ wx = w') := fun wx => inode_any i wx
  have hia : inoAt i = if i < 0 ∨ 32 ≤ i then -1 else 824 + i * 8 := rfl
  have HIA := Lib.hid hia
  clear hb hn he h hlen hia
  by_cases hi : i < 0 ∨ 32 ≤ i
  · have hat : inoAt i = -1 := by rw [HIA.out, if_pos hi]
    rw [hat] at HIN
    clear hat hi
    go_enter Try.func56, Try.ntmps56
    go_wp2_with fail
    refine (HIN.out _).mono ?_
    rintro e w1 ⟨rfl, rfl⟩
    go_wp2_with fail
    go_ret
    exact ⟨rfl, (ShStep.start HSH.out).still HM0.out⟩
  · have hat : inoAt i = 824 + i * 8 := by rw [HIA.out, if_neg hi]
    rw [hat] at HIN
    have hge : ¬ 824 + i * 8 < 0 := by omega
    have hd : decide (824 + i * 8 < 0) = false := by simpa using hge
    have HI := Lib.hid hi
    have hi0 : 0 ≤ i := by omega
    have hi1 : i < 32 := by omega
    clear hat hi
    cases hr : rightB n with
    | false =>
      rw [hr] at HRI
      clear hr
      go_enter Try.func56, Try.ntmps56
      go_wp2_with fail
      refine (HIN.out _).mono ?_
      rintro e w1 ⟨rfl, rfl⟩
      go_wp2_with (first
        | ((refine wpList_unguard (o := ⟨some 19, _, _, _, _, _⟩) (by rfl) ?_; with_reducible refine wpList_load_mid rfl 25 _ rfl w.heap.size 0 rfl (inoL n ev) _ HRG.out Try.underlying25 rfl (by rw [HLEN.out]; exact Try.info18) ?_))
        | (go_at_call 54; refine HRI.out.mono ?_; rintro e w2 ⟨rfl, hb2⟩; have HB2 := Lib.hid hb2; clear hb2))
      go_ret
      exact ⟨rfl, (ShStep.start HSH.out).still (HM0.out.step (mod_of_below HB2.out) (fun _ h => h))⟩
    | true =>
      rw [hr] at HRI
      have hfo : n.format ≠ 1 := by
        rcases hbad with h | h | h | h
        · exact absurd (.inl h) HI.out
        · exact absurd (.inr h) HI.out
        · exact absurd (of_rightB hr) h
        · exact h
      have hfb : (n.format != 1) = true := by simpa using hfo
      clear hr hfo
      go_enter Try.func56, Try.ntmps56
      go_wp2_with fail
      refine (HIN.out _).mono ?_
      rintro e w1 ⟨rfl, rfl⟩
      go_wp2_with (first
        | ((refine wpList_unguard (o := ⟨some 19, _, _, _, _, _⟩) (by rfl) ?_; with_reducible refine wpList_load_mid rfl 25 _ rfl w.heap.size 0 rfl (inoL n ev) _ HRG.out Try.underlying25 rfl (by rw [HLEN.out]; exact Try.info18) ?_))
        | (go_at_call 54; refine HRI.out.mono ?_; rintro e w2 ⟨rfl, hb2⟩; have c0' := hb2.cell (p := ⟨w.heap.size, 0, none⟩) hBs; rw [c0] at c0'; have HB2 := Lib.hid hb2; clear hb2))
      go_ret
      exact ⟨rfl, (ShStep.start HSH.out).still (HM0.out.step (mod_of_below HB2.out) (fun _ h => h))⟩

theorem need1_le {n : Ino} (hr : RightP n) : need1 n ≤ 6 := by
  unfold need1
  rcases hr.2.2.2 with ⟨-, h⟩ | ⟨-, h⟩
  · rw [h.2.2.2]; simp
  · have := h.2.1; omega

theorem RightP.ents {n : Ino} (hr : RightP n) : n.ents.length ≤ 24 := by
  rcases hr.2.2.2 with ⟨-, h⟩ | ⟨-, h⟩
  · rw [h.2.2.2]; simp
  · exact h.2.1

theorem RightP.entOK {n : Ino} (hr : RightP n) (k : Nat) (hk : k < n.ents.length) : Proofs.Ytlopdbhjdijlmaa.entOK n.ents k := by
  rcases hr.2.2.2 with ⟨-, h⟩ | ⟨-, h⟩
  · rw [h.2.2.2] at hk; simp at hk
  · exact h.1 k hk

theorem RightP.blk {n : Ino} (hr : RightP n) (k : Nat) (hk : k < 13) : 0 ≤ n.bl.getD k 0 ∧ n.bl.getD k 0 < 256 := by
  rcases hr.2.2.2 with ⟨-, h⟩ | ⟨-, h⟩
  · exact (h.1 k hk).1
  · have := h.2.2.2 k hk
    omega

theorem blOf_get {n : Ino} (hl : n.bl.length = 13) (xs : List Nat) (hx : need1 n ≤ xs.length) (k : Nat) (hk : k < 13) : (blOf n xs).getD k 0 = if k < need1 n then ((xs.getD k 0 : Nat) : Int) else n.bl.getD k 0 := by
  unfold blOf
  have hlen : ((xs.take (need1 n)).map (fun (b : Nat) => (b : Int))).length = need1 n := by rw [List.length_map, List.length_take]; omega
  rw [List.getD_eq_getElem?_getD]
  split
  · rename_i h
    rw [List.getElem?_append_left (by omega), List.getElem?_map, List.getElem?_take, if_pos h, List.getElem?_eq_getElem (by omega), List.getD_eq_getElem?_getD, List.getElem?_eq_getElem (by omega)]
    rfl
  · rename_i h
    rw [List.getElem?_append_right (by omega), hlen, List.getElem?_drop, List.getD_eq_getElem?_getD]
    congr 2
    omega

set_option maxRecDepth 20000 in
set_option maxHeartbeats 4000000 in
theorem lay1_ok {w : World} {p : Nat} {D : Nat → Prop} {S : Sh} (h : SheetAt w p D S) (hlen : S.was.length + 4000 < 1099511627776) (i : Int) (hi0 : 0 ≤ i) (hi1 : i < 32) {n : Ino} {ev : Value} (hn : n.Ok) (he : HoldsE w ev n.ents) (hed : n.ents ≠ [] → ∀ g, ev.ownBlock = some g → ¬ D g) (hr : RightP n) (hf : n.format = 1) :
    Calls Try.prog 56 #[.pointer (some ⟨p, 0, none⟩), .int .i64 i, .agg (inoA n ev)] w fun e w' => e = .returned (.int .i64 (if need1 n + more1 n ≤ freeN S then 0 else 7)) ∧ ShStep w p D w' (if need1 n + more1 n ≤ freeN S then lay1S S i n else S) := by
  have hb := InoB.new w hn.len ev
  have HB := Lib.hid hb
  have HNO := Lib.hid hn
  have HSH := Lib.hid h
  have HE := Lib.hid he
  have HED := Lib.hid hed
  have HR := Lib.hid hr
  have HSL := Lib.hid hlen
  have hleni : (inoL n ev).length = 18 := inoL_len hn.len ev
  have HLEN := Lib.hid hleni
  have HRG := Lib.hid (hb.at.range hn.len)
  have c0 := hb.at.c0
  rw [hf] at c0
  have HBEL : Hid (Below w.heap.size w (w.alloc (.cells (inoA n ev) 25))) := (Below.refl _ _).alloc (Nat.le_refl _) _
  have HM0 : Hid (Mod nob w (w.alloc (.cells (inoA n ev) 25))) := (Mod.refl nob w).alloc _
  have hBs : w.heap.size < (w.alloc (.cells (inoA n ev) 25)).heap.size := by simp
  have HRI : Hid (Calls Try.prog 54 #[.agg (inoL n ev).toArray] (w.alloc (.cells (inoA n ev) 25)) fun e w' => e = .returned (.bool true) ∧ Below (w.alloc (.cells (inoA n ev) 25)).heap.size (w.alloc (.cells (inoA n ev) 25)) w') := by
    have := right_any hn (he.below HBEL.out)
    rw [rightB_true hr] at this
    exact this
  have HIN : Hid (∀ wx, Calls Try.prog 53 #[.int .i64 i] wx fun e w' => e = .returned (.int .i64 (824 + i * 8)) ∧ wx = w') := by
    intro wx
    have := inode_any i wx
    rw [if_neg (by omega)] at this
    exact this
  have hsz : (n.bl.map (Value.int .i64)).length = 13 := by simp [hn.len]
  have HSZ := Lib.hid hsz
  have hge : ¬ 824 + i * 8 < 0 := by omega
  have hd : decide (824 + i * 8 < 0) = false := by simpa using hge
  obtain ⟨L, hL⟩ : ∃ L, L = n.ents.length := ⟨_, rfl⟩
  have hL24 := hr.ents
  rw [← hL] at hL24
  have HL := Lib.hid hL
  obtain ⟨nd, hnd⟩ : ∃ nd, nd = need1 n := ⟨_, rfl⟩
  have hndi : ((L : Int) + 4 - 1) / 4 = (nd : Int) := by
    rw [hnd]
    unfold need1
    rw [← hL]
    omega
  have hnd6 : nd ≤ 6 := by rw [hnd]; exact need1_le hr
  have HND := Lib.hid hnd
  have hLs : 4 * nd < L + 4 ∧ L ≤ 4 * nd := by
    have := hnd
    unfold need1 at this
    rw [← hL] at this
    omega
  obtain ⟨ao, c, rfl, e1, e2, -, -⟩ := he
  rw [← hL] at e1 HB HBEL HM0 hBs HRI HE HED HRG HLEN c0 ⊢
  rw [← hnd]
  clear hb hn h hlen hL hnd hsz hed hr hf hge hleni
  unfold maxLen at e2
  obtain ⟨mo, hmo⟩ : ∃ mo, mo = more1 n := ⟨_, rfl⟩
  have hmo1 : mo ≤ 1 := by rw [hmo]; exact more1_le n
  have hmoi : Hid (mo = 1 ↔ 5 < nd ∨ longB n.bl = true) := by
    unfold Hid
    rw [hmo, HND.out, longB_iff]
    unfold more1
    split <;> rename_i h <;> simp [h]
  have HMO := Lib.hid hmo
  rw [← hmo]
  clear hmo
  go_enter Try.func56, Try.ntmps56
  go_wp2_with fail
  refine (HIN.out _).mono ?_
  rintro e w1 ⟨rfl, rfl⟩
  go_upto_region 4 with (first
    | ((refine wpList_unguard (o := ⟨some 19, _, _, _, _, _⟩) (by rfl) ?_; with_reducible refine wpList_load_mid rfl 25 _ rfl w.heap.size 0 rfl (inoL n (.slice ao L c)) _ HRG.out Try.underlying25 rfl (by rw [HLEN.out]; exact Try.info18) ?_))
    | (go_at_call 54; refine HRI.out.mono ?_; rintro e w2 ⟨rfl, hb2⟩; have c0' := hb2.cell (p := ⟨w.heap.size, 0, none⟩) hBs; rw [c0] at c0'; have HB2 := Lib.hid hb2; clear hb2))
  have HM2 : Hid (Mod nob w w2) := HM0.out.step (mod_of_below HB2.out) (fun _ h => h)
  have HI2 : Hid (InoB w2 w.heap.size n (.slice ao L c)) := HB.out.mod (mod_of_below HB2.out) (fun h => h)
  clear c0 c0' HIN HRI HRG HB HBEL HB2 hBs
  have c17 := HI2.out.at.ev
  have HRB := Lib.hid (HI2.out.at.blocks HNO.out.len)
  simp only [Nat.zero_add] at c17 HRB
  have HLO : Hid (∀ wx, Calls Try.prog 88 #[.agg (n.bl.map (Value.int .i64)).toArray] wx fun e w' => e = .returned (.bool (longB n.bl)) ∧ Below wx.heap.size wx w') := fun wx => long_any n.bl HNO.out.len
  go_upto_region 6 with (fail)
  rw [hndi]
  clear hndi
  go_cut [36, 37, 38, 39, 40] (fun _ _ _ _ v wc => v = .bool (decide (mo = 1)) ∧ Hid (Mod nob w2 wc))
  case first =>
    by_cases h5 : 5 < nd
    · have h5i : (5 : Int) < (nd : Int) := by omega
      have hb : decide (mo = 1) = true := decide_eq_true (hmoi.out.2 (.inl h5))
      have HB := Lib.hid hb
      clear hb
      go_wp2_with fail
      go_meet
      case rel => exact ⟨by rw [HB.out], Mod.refl _ _⟩
    · have h5i : ¬ (5 : Int) < (nd : Int) := by omega
      have hb : decide (mo = 1) = longB n.bl := by
        cases hlb : longB n.bl with
        | true => exact decide_eq_true (hmoi.out.2 (.inr hlb))
        | false => exact decide_eq_false (fun h => by rcases hmoi.out.1 h with h | h; exact h5 h; rw [hlb] at h; cases h)
      have HB := Lib.hid hb
      clear hb
      go_wp2_with (first
        | ((refine wpList_unguard (o := ⟨some 38, _, _, _, _, _⟩) (by rfl) ?_; with_reducible refine wpList_load_mid rfl 22 _ rfl w.heap.size 4 rfl (n.bl.map (Value.int .i64)) _ HRB.out Try.underlying22 rfl (by rw [HSZ.out]; exact Try.info13) ?_))
        | (go_at_call 88; refine (HLO.out _).mono ?_; rintro e w3 ⟨rfl, hb3⟩; have HB3 := Lib.hid hb3; clear hb3))
      go_meet
      case rel => exact ⟨by rw [HB.out], mod_of_below HB3.out⟩
  case rest =>
    obtain ⟨rfl, HMC⟩ := hcut
    go_upto_if 40 with (fail)
    go_cut [9] (fun v wd => v = .int .i64 (mo : Nat) ∧ wc = wd)
    case first =>
      rcases (show mo = 0 ∨ mo = 1 by omega) with h | h
      · subst h
        go_wp2_with fail
        go_meet
        case rel => exact ⟨rfl, rfl⟩
      · subst h
        go_wp2_with fail
        go_meet
        case rel => exact ⟨rfl, rfl⟩
    case rest =>
      obtain ⟨rfl, rfl⟩ := hcut
      obtain ⟨wq, rfl⟩ : ∃ wq : World, wq = wc := ⟨_, rfl⟩
      have HM3 : Hid (Mod nob w wq) := HM2.out.step HMC.out (fun _ h => h)
      have HI3 := Lib.hid (HI2.out.mod HMC.out (fun h => h))
      clear c17 HRB HI2 HMC HM2 HLO
      by_cases hfr : nd + mo ≤ freeN S
      · have HFR := Lib.hid hfr
        have htk : Calls Try.prog 89 #[.pointer (some ⟨p, 0, none⟩), .int .i64 ((nd : Int) + (mo : Int))] wq fun e w' => ∃ v, e = .returned (.tuple #[v, .int .i64 0]) ∧ Taken wq p D w' (lay1T S n).1 v (lay1T S n).2 := by
          have := take_ok (HSH.out.mod HM3.out (fun _ _ h => h)) (by have := HSL.out; omega) (nd + mo) hfr
          unfold lay1T
          rw [← HND.out, ← HMO.out]
          exact this
        have HTK := Lib.hid htk
        have hxs : (lay1T S n).2.length = nd + mo ∧ (∀ b ∈ (lay1T S n).2, 1 ≤ b ∧ b < 256) ∧ (lay1T S n).1.was.length ≤ S.was.length + 9 * 255 := by
          have hl := takeFrom_law 255 S 1 (need1 n + more1 n) (Nat.le_refl _) (by omega) (by rw [← freeN_from, ← HND.out, ← HMO.out]; exact hfr)
          unfold lay1T
          exact ⟨by rw [hl.1, HND.out, HMO.out], fun b hb => by have := hl.2.1 b hb; omega, hl.2.2.2.2.2⟩
        have HLS : Hid (lay1S S i n = lay1P (lay1T S n).1 (824 + i * 8) n (lay1T S n).2) := rfl
        obtain ⟨T1, hT1⟩ : ∃ T1, T1 = (lay1T S n).1 := ⟨_, rfl⟩
        obtain ⟨xs, hxx⟩ : ∃ xs, xs = (lay1T S n).2 := ⟨_, rfl⟩
        rw [← hT1, ← hxx] at HTK HLS
        rw [← hxx, ← hT1] at hxs
        obtain ⟨hxl, hxb, hxw⟩ := hxs
        have HXW := Lib.hid hxw
        have HXL := Lib.hid hxl
        have HXB := Lib.hid hxb
        clear htk hxx hT1 hfr hxl hxb hxw
        go_wp2_with fail
        refine HTK.out.mono ?_
        rintro e w4 ⟨v, rfl, Dk, hs4, ho4, hg4, hD4, hm4⟩
        obtain ⟨ta, tc, rfl, t1, t2, -⟩ := own_shape ho4
        rw [HXL.out] at t1 ho4 hg4 ⊢
        unfold maxLen at t2
        have HS4 := Lib.hid hs4
        have HO4 := Lib.hid ho4
        have HG4 := Lib.hid hg4
        have HD4 := Lib.hid hD4
        have HM4 := Lib.hid hm4
        clear hs4 ho4 hg4 hD4 hm4 HTK
        go_upto_if 53 with (fail)
        go_cut [12] (fun v wd => v = .int .i64 (listOf xs nd mo) ∧ w4 = wd)
        case first =>
          rcases (show mo = 0 ∨ mo = 1 by omega) with h | h
          · subst h
            go_wp2_with fail
            go_meet
            case rel => exact ⟨rfl, rfl⟩
          · subst h
            obtain ⟨gt, ct, e, -, -, -, -⟩ := own_some HO4.out (by omega)
            simp only [Value.slice.injEq] at e
            obtain ⟨rfl, -, rfl⟩ := e
            have d := HO4.out.cells rfl nd _ (nums_get xs nd (by rw [HXL.out]; omega))
            rw [Addr.add_lit, Nat.zero_add] at d
            have hn0 : (0 : Int) ≤ (nd : Int) := Int.natCast_nonneg _
            have hn1 : (nd : Int) < ((nd + 1 : Nat) : Int) := by omega
            go_wp2_with fail
            go_meet
            case rel => exact ⟨rfl, rfl⟩
        case rest =>
          obtain ⟨rfl, rfl⟩ := hcut
          have hlr : 0 ≤ listOf xs nd mo ∧ listOf xs nd mo < 256 := by
            unfold listOf
            split
            · rename_i h
              have := HXB.out (xs.getD nd 0) (by
                rw [List.getD_eq_getElem?_getD, List.getElem?_eq_getElem (by rw [HXL.out]; omega)]
                exact List.getElem_mem _)
              omega
            · omega
          have HLR := Lib.hid hlr
          have HBD4 : Hid (¬ Dk w.heap.size) := by
            intro hd
            rcases HD4.out _ hd with h | h
            · have := HSH.out.lt _ h; omega
            · have := HI3.out.lt; omega
          have HI4 := Lib.hid (HI3.out.mod HM4.out (fun hd => by have := HSH.out.lt _ hd; omega))
          have HRB4 := Lib.hid (HI4.out.at.blocks HNO.out.len)
          simp only [Nat.zero_add] at HRB4
          have hth : ((w4.alloc (.cells z13 22)).there w4.heap.size 0 (n.bl.map (Value.int .i64)).toArray.size) := by
            rw [show (n.bl.map (Value.int .i64)).toArray.size = 13 by simp [HNO.out.len]]
            exact arr_there w4 _
          have HTH := Lib.hid hth
          have HRB5 : Hid ((w4.alloc (.cells z13 22)).rangeAt w.heap.size 4 (n.bl.map (Value.int .i64))) := World.rangeAt_alloc HRB4.out _
          have hone : (n.bl.map (Value.int .i64)).toArray.all (·.oneCell') = true := all_oneCell_toArray (ints_oneCell _ _)
          have HONE := Lib.hid hone
          have HISZ : Hid ((Try.prog.info? 22).map (·.size) = some (n.bl.map (Value.int .i64)).toArray.size) := by
            unfold Hid
            rw [show (n.bl.map (Value.int .i64)).toArray.size = 13 by simp [HNO.out.len]]
            exact Try.info13
          have HROW := Lib.hid (arr_row w4 22 (n.bl.map (Value.int .i64)) HSZ.out)
          clear hlr hth hone
          go_upto_region 15 with (first
            | (with_reducible refine wpList_load_mid (op := ⟨some 59, _, _, _, _, _⟩) rfl 22 _ rfl w.heap.size 4 rfl (n.bl.map (Value.int .i64)) _ HRB4.out Try.underlying22 rfl (by rw [HSZ.out]; exact Try.info13) ?_)
            | (with_reducible refine wpList_store_mid (op := ⟨none, _, _, _, _, _⟩) rfl 22 _ _ rfl w4.heap.size 0 (n.bl.map (Value.int .i64)).toArray rfl rfl HTH.out HISZ.out HONE.out ?_))
          go_frame
          have hcs : ((nums xs).take nd).length = nd := by rw [List.length_take, nums_len, HXL.out]; omega
          have HCS := Lib.hid hcs
          have HSPL : Hid (splice (n.bl.map (Value.int .i64)) 0 ((nums xs).take nd) = (blOf n xs).map (Value.int .i64)) := by
            unfold Hid splice blOf
            rw [List.take_zero, List.nil_append, Nat.zero_add, hcs, ← HND.out, List.map_append, List.map_drop, List.map_map, List.map_take]
            rfl
          generalize (w4.alloc (.cells z13 22)).setCells w4.heap.size 0 (n.bl.map (Value.int .i64)) = w5 at *
          obtain ⟨X, hX⟩ : ∃ X, X = w4.heap.size := ⟨_, rfl⟩
          rw [← hX] at HROW ⊢
          have HXX := Lib.hid hX
          have hn0 : (0 : Int) ≤ (nd : Int) := Int.natCast_nonneg _
          have hn1 : (nd : Int) ≤ (tc : Int) := by omega
          have hn6 : (nd : Int) ≤ 6 := by omega
          clear hcs hX
          go_cut [60, 61, 62, 63, 64] (fun _ _ _ _ _ wd => Hid (wd.heap[X]? = some (.cells ((blOf n xs).map (Value.int .i64)).toArray 22 (0, 0))) ∧ Hid (Below X w4 wd))
          case first =>
            have hpos : 0 < ((nums xs).take nd).length → (some (⟨X, 0, none⟩ : Addr) = some ⟨X, 0, none⟩) ∧ ∃ ad, ta = some ad ∧ ∀ j v, ((nums xs).take nd)[j]? = some v → w5.drew.cell? (ad.add j) = some v := by
              intro hp
              rw [HCS.out] at hp
              obtain ⟨gt, ct, e, -, gl, -, -⟩ := own_some HO4.out (by omega)
              simp only [Value.slice.injEq] at e
              obtain ⟨rfl, -, rfl⟩ := e
              refine ⟨rfl, _, rfl, fun j v hj => ?_⟩
              rw [List.getElem?_take] at hj
              split at hj
              · have d := HO4.out.cells rfl j v hj
                have hlt : gt < X := by rw [HXX.out]; exact gl
                rw [Addr.add_lit] at d ⊢
                show w5.cell? _ = _
                rw [HROW.out.2.cell (p := ⟨gt, 0 + j, none⟩) hlt]
                exact d
              · cases hj
            have HPOS := Lib.hid hpos
            clear hpos
            go_region_law ((refine step_copy_splice (o := ⟨some 64, _, _, _, _, _⟩) rfl (.tmp 60) (.tmp 63) 56 56 rfl 3 Try.underlying56 (by kernel_rfl) (some ⟨X, 0, none⟩) ta 13 13 nd tc (by rfl) (by rfl) X 0 (n.bl.map (Value.int .i64)) 22 HROW.out.1 ((nums xs).take nd) (by rw [HCS.out]; exact (Nat.min_eq_left (by omega)).symm) HPOS.out (by rw [HCS.out, HSZ.out]; omega) (fun u hu => nums_one xs u (List.mem_of_mem_take hu)) X w4 HROW.out.2.drew (Nat.le_refl _) ?_; intro wd hh hbd))
            go_wp2_with fail
            go_meet
            case rel => exact ⟨by unfold Hid; rw [← HSPL.out]; exact hh.out, hbd⟩
          case rest =>
            obtain ⟨HXR, HBX⟩ := hcut
            have HM5 : Hid (Mod nob w4 wc) := by rw [HXX.out] at HBX; exact mod_of_below HBX.out
            have HI5 := Lib.hid (HI4.out.mod HM5.out (fun h => h))
            have HS5 := Lib.hid (HS4.out.mod HM5.out (fun _ _ h => h))
            have HO5 := Lib.hid (HM5.out.own HO4.out (fun _ _ h => h))
            have HN5 := Lib.hid (holdsN_of_own HXL.out.symm HO5.out)
            have HE5 := Lib.hid ((HE.out.mod HM3.out (fun _ _ _ h => h)).mod (HM4.out) HED.out |>.mod HM5.out (fun _ _ _ h => h))
            have HXR5 : Hid (wc.rangeAt X 0 ((blOf n xs).map (Value.int .i64))) := by
              have := World.rangeAt_of_block HXR.out 0 13
              unfold Hid
              intro j v hj
              rw [Nat.zero_add, cell_of_row _ _ _ _ _ _ HXR.out]
              simpa using hj
            have HRI5 := Lib.hid (HI5.out.at.range HNO.out.len)
            have hbl : (blOf n xs).length = 13 := blOf_len n HNO.out.len xs (by rw [HXL.out, ← HND.out]; omega) (by rw [← HND.out]; omega)
            have HBL := Lib.hid hbl
            have hXD : Hid (¬ Dk X) := fun hd => by have := HS4.out.lt _ hd; have := HXX.out; omega
            have HTAG : Hid (Calls Try.prog 90 #[.agg (inoL n (.slice ao L c)).toArray] wc fun e w' => e = .returned (.int .u64 (tagW n)) ∧ Below wc.heap.size wc w') := tag_any HNO.out.len ⟨HR.out.small.1, HR.out.small.2.1, HR.out.small.2.2.1⟩
            have htw : 0 ≤ tagW n ∧ tagW n < 18446744073709551616 := by
              have := HR.out.small
              unfold tagW
              omega
            have hsm := HR.out.small.2.2.2
            obtain ⟨sz, hsz⟩ : ∃ sz, sz = n.size := ⟨_, rfl⟩
            rw [← hsz] at hsm
            have HSI := Lib.hid hsz
            obtain ⟨tg, htg⟩ : ∃ tg, tg = tagW n := ⟨_, rfl⟩
            rw [← htg] at htw HTAG
            have HTG := Lib.hid htg
            have HWT : Hid (T1.was.length + 200 < 1099511627776) := by
              unfold Hid
              have := HXW.out
              have := HSL.out
              omega
            clear hbl hsz htg HROW HTH HISZ HONE HRB5 HRB4
            go_wp2_with (first
              | (with_reducible refine wpList_load_mid (op := ⟨some 67, _, _, _, _, _⟩) rfl 25 _ rfl w.heap.size 0 rfl (inoL n (.slice ao L c)) _ HRI5.out Try.underlying25 rfl (by rw [HLEN.out]; exact Try.info18) ?_)
              | (go_at_call 90; refine HTAG.out.mono ?_; rintro e w6 ⟨rfl, hb6⟩; have HB6 := Lib.hid hb6; clear hb6))
            have HM6 : Hid (Mod nob wc w6) := mod_of_below HB6.out
            have HK6 := Lib.hid (ShStep.at wc HS5.out HM6.out)
            have HI6 := Lib.hid (HI5.out.mod HM6.out (fun h => h))
            have HX6 := Lib.hid (rangeAt_below HXR5.out HB6.out (by have := HXX.out; have := HM5.out.size; have := lt_of_block HXR.out; exact this))
            refine (sheet_put HK6.out.1 (by have := HWT.out; omega) _ tg htw.1 htw.2).mono ?_
            rintro e w7 ⟨rfl, h7, m7⟩
            have HK7 := Lib.hid (HK6.out.step h7 m7)
            have HI7 := Lib.hid (HI6.out.mod HK7.out.2 HBD4.out)
            have c3 := HI7.out.at.c3
            rw [← HSI.out, Nat.zero_add] at c3
            have HW7 : Hid ((T1.put (824 + i * 8) tg).was.length + 150 < 1099511627776) := by
              unfold Hid
              have h1 := Sh.put_was_le T1 (824 + i * 8) tg
              have := HWT.out
              omega
            clear h7 m7
            go_wp2_with fail
            refine (sheet_put HK7.out.1 (by have := HW7.out; omega) _ sz hsm.1 (by omega)).mono ?_
            rintro e w8 ⟨rfl, h8, m8⟩
            have HK8 := Lib.hid (HK7.out.step h8 m8)
            have HW8 : Hid (((T1.put (824 + i * 8) tg).put (824 + i * 8 + 1) sz).was.length + 140 < 1099511627776) := by
              unfold Hid
              have h1 := Sh.put_was_le (T1.put (824 + i * 8) tg) (824 + i * 8 + 1) sz
              have := HW7.out
              omega
            have HX8 : Hid (w8.rangeAt X 0 ((blOf n xs).map (Value.int .i64))) := fun j v hj => HK8.out.2.cell (HX6.out j v hj) hXD.out
            have hbm : ((blOf n xs).map (Value.int .i64)).length = 13 := by rw [List.length_map, HBL.out]
            have HBM := Lib.hid hbm
            have hbv : ∀ k, k < 13 → 0 ≤ (blOf n xs).getD k 0 ∧ (blOf n xs).getD k 0 < 256 := by
              intro k hk
              rw [blOf_get HNO.out.len xs (by rw [HXL.out, ← HND.out]; omega) k hk]
              split
              · rename_i h
                have := HXB.out (xs.getD k 0) (by
                  rw [List.getD_eq_getElem?_getD, List.getElem?_eq_getElem (by rw [HXL.out]; rw [← HND.out] at h; omega)]
                  exact List.getElem_mem _)
                omega
              · exact HR.out.blk k hk
            have HBV := Lib.hid hbv
            have hlr := HLR.out
            clear h8 m8 hbm hbv c3
            go_wp2_with (with_reducible refine wpList_load_mid (op := ⟨some 79, _, _, _, _, _⟩) rfl 22 _ rfl X 0 rfl ((blOf n xs).map (Value.int .i64)) _ HX8.out Try.underlying22 rfl (by rw [HBM.out]; exact Try.info13) ?_)
            refine (numbers_any HK8.out.1 (by have := HW8.out; omega) (824 + i * 8) (by omega) (blOf n xs) HBL.out HBV.out (listOf xs nd mo) hlr).mono ?_
            rintro e w9 ⟨rfl, h9⟩
            have HK9 := Lib.hid (HK8.out.step' h9)
            have HI9 := Lib.hid (HI6.out.mod HK9.out.2 HBD4.out)
            have c17 := HI9.out.at.ev
            rw [Nat.zero_add] at c17
            have HN9 := Lib.hid ((HN5.out.mod HM6.out (fun _ _ _ h => h)).mod HK9.out.2 (fun _ g hg => HG4.out g hg))
            have hevd : n.ents ≠ [] → ∀ g, (Value.slice ao L c).ownBlock = some g → ¬ Dk g ∧ g < w6.heap.size := by
              intro hne g hg
              have h1 := HE.out.lt hne g hg
              have h2 := HM3.out.size
              have h3 := HM4.out.size
              have h4 := HM5.out.size
              have h5 := HM6.out.size
              refine ⟨fun hd => ?_, by omega⟩
              rcases HD4.out g hd with h | h
              · exact HED.out hne g hg h
              · omega
            have HEVD := Lib.hid hevd
            have HE9 := Lib.hid ((HE5.out.mod HM6.out (fun _ _ _ h => h)).mod HK9.out.2 (fun hne g hg => (HEVD.out hne g hg).1))
            have HW9 : Hid ((numbersS ((T1.put (824 + i * 8) tg).put (824 + i * 8 + 1) sz) (824 + i * 8) (blOf n xs) (listOf xs nd mo)).was.length + 100 < 1099511627776) := by
              unfold Hid numbersS
              have h1 := numbersTo_was ((T1.put (824 + i * 8) tg).put (824 + i * 8 + 1) sz) (824 + i * 8) (blOf n xs) (listOf xs nd mo) 13
              have h2 := Sh.put_was_le (numbersTo ((T1.put (824 + i * 8) tg).put (824 + i * 8 + 1) sz) (824 + i * 8) (blOf n xs) (listOf xs nd mo) 13) (824 + i * 8 + 7) (listOf xs nd mo)
              have := HW8.out
              omega
            have hnbd : xs ≠ [] → ∀ g, (Value.slice ta (nd + mo) tc).ownBlock = some g → ¬ grow Dk w6 w9 g := by
              intro hne g hg hd
              have h1 := (HN5.out.mod HM6.out (fun _ _ _ h => h)).lt hne g hg
              rcases hd with hd | hd
              · exact HG4.out g hg hd
              · omega
            have hebd : n.ents ≠ [] → ∀ g, (Value.slice ao L c).ownBlock = some g → ¬ grow Dk w6 w9 g := by
              intro hne g hg hd
              have h1 := HEVD.out hne g hg
              rcases hd with hd | hd
              · exact h1.1 hd
              · omega
            have HENT := Lib.hid (entries_any HK9.out.1 HW9.out HN9.out HE9.out hnbd hebd (fun b hb => (HXB.out b hb).2) (by rw [← HL.out]; exact hL24) (by rw [← HL.out, HXL.out]; omega) (fun k hk => by have := HR.out.entOK k hk; exact ⟨this.1, this.2.2⟩))
            clear hevd hnbd hebd
            go_wp2_with fail
            refine HENT.out.mono ?_
            rintro e w10 ⟨rfl, h10⟩
            have HK10 := Lib.hid (HK9.out.step' h10)
            go_wp2_with fail
            go_ret
            have h46 : Mod nob w4 w6 := HM5.out.step HM6.out (fun _ h => h)
            have hTK : ShStep wq p D w4 T1 := by
              refine ⟨HS4.out.mono HD4.out (fun b hb => ?_), HM4.out⟩
              rcases hb with hb | hb
              · have h1 := HSH.out.lt _ hb
                have h2 := HM3.out.size
                have h3 := HM4.out.size
                omega
              · exact hb.2
            have hfin := ShStep.from HSH.out HM3.out (hTK.over h46 (HK10.out.mono HD4.out (fun b hb => by have h1 := hTK.1.lt b hb; have h2 := h46.size; omega)))
            have hval : entriesS (numbersS ((T1.put (824 + i * 8) tg).put (824 + i * 8 + 1) sz) (824 + i * 8) (blOf n xs) (listOf xs nd mo)) xs n.ents = lay1S S i n := by
              rw [HLS.out]
              unfold lay1P
              rw [HTG.out, HSI.out, HND.out, HMO.out]
            rw [hval] at hfin
            first
              | exact ⟨rfl, hfin⟩
              | (rw [if_pos HFR.out, if_pos HFR.out]; exact ⟨rfl, hfin⟩)
      · have HFR := Lib.hid hfr
        have HTK := Lib.hid (take_no (HSH.out.mod HM3.out (fun _ _ h => h)) ((nd : Int) + (mo : Int)) (by omega))
        clear hfr
        go_wp2_with fail
        refine HTK.out.mono ?_
        rintro e w4 ⟨rfl, rfl⟩
        go_wp2_with fail
        go_ret
        first
          | exact ⟨rfl, (ShStep.start HSH.out).still HM3.out⟩
          | (rw [if_neg HFR.out, if_neg HFR.out]
             exact ⟨rfl, (ShStep.start HSH.out).still HM3.out⟩)
end Go.Proofs.Ytlopdbhjdijlmaa
