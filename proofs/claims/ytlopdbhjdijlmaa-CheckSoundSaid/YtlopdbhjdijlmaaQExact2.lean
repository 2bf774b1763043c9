/-
  What fmt1.exact answers: a contract. No condition but the bounds that are typed.
-/
import Derived.Test.YtlopdbhjdijlmaaQExact1
import Derived.Test.YtlopdbhjdijlmaaQLay2
import Derived.Deep.DrawnRows

namespace Go.Proofs.Ytlopdbhjdijlmaa
open Go.ChangeShapes Go.WideShapes Go.ChangeAt Go.RowKit
set_option linter.unusedSimpArgs false
set_option linter.unusedVariables false

/-- An inode's words put, with a list's block. -/
noncomputable def lay1Q (S : Sh) (at_ : Int) (n : Ino) (own : List Nat) (list : Int) : Sh := entriesS (numbersS ((S.put at_ (tagW n)).put (at_ + 1) n.size) at_ (blOf n own) list) own n.ents

def ExactP (S : Sh) (at_ : Int) (n : Ino) (own : List Nat) (list : Int) : Prop :=
  SameTo S (lay1Q (Sh.new []) at_ n own list) at_ 8 ∧ (list ≠ 0 ↔ LongP (blOf n own)) ∧ (∀ k, k < own.length → SameTo S (lay1Q (Sh.new []) at_ n own list) (1080 + ((own.getD k 0 : Nat) : Int) * 8) 8) ∧
    (list ≠ 0 → SameTo S (lay1Q (Sh.new []) at_ n own list) (1080 + list * 8) 8)
open Classical in
noncomputable def exactB (S : Sh) (at_ : Int) (n : Ino) (own : List Nat) (list : Int) : Bool := decide (ExactP S at_ n own list)
open Classical in
theorem exactB_iff (S : Sh) (at_ : Int) (n : Ino) (own : List Nat) (list : Int) : exactB S at_ n own list = true ↔ ExactP S at_ n own list := by unfold exactB; exact decide_eq_true_iff
theorem exactB_false {S : Sh} {at_ : Int} {n : Ino} {own : List Nat} {list : Int} (h : ¬ ExactP S at_ n own list) : exactB S at_ n own list = false := by
  cases hb : exactB S at_ n own list with
  | false => rfl
  | true => exact absurd ((exactB_iff _ _ _ _ _).1 hb) h

attribute [local go_sem ↓] Go.wp_at_zero Go.wp_at_succ

set_option maxRecDepth 20000 in
set_option maxHeartbeats 8000000 in
theorem exact_any {w : World} {p : Nat} {D : Nat → Prop} {S : Sh} (h : SheetAt w p D S) (at_ : Int) (ha : 0 ≤ at_ ∧ at_ ≤ 3000) {n : Ino} {ev bv : Value} {own : List Nat} (hn : n.Ok) (he : HoldsE w ev n.ents) (hv : HoldsN w bv own) (hr : RightP n) (hon : own.length = need1 n) (hob : ∀ b ∈ own, b < 256) (list : Int) (hli : 0 ≤ list ∧ list < 256) :
    Calls Try.prog 98 #[.pointer (some ⟨p, 0, none⟩), .int .i64 at_, .agg (inoA n ev), bv, .int .i64 list] w fun e w' => e = .returned (.bool (exactB S at_ n own list)) ∧ Below w.heap.size w w' := by
  have HSH := Lib.hid h
  have HNO := Lib.hid hn
  have HE := Lib.hid he
  have HV := Lib.hid hv
  have HR := Lib.hid hr
  have HON := Lib.hid hon
  have HOB := Lib.hid hob
  obtain ⟨a0, a1⟩ := ha
  obtain ⟨l0, l1⟩ := hli
  obtain ⟨ta, tc, rfl, t1, t2, -, -⟩ := hv
  obtain ⟨ea, ec, rfl, e1, e2, -, -⟩ := he
  obtain ⟨M, hM⟩ : ∃ M, M = own.length := ⟨_, rfl⟩
  have hM6 : M ≤ 6 := by rw [hM, hon]; exact need1_le hr
  obtain ⟨L, hL⟩ : ∃ L, L = n.ents.length := ⟨_, rfl⟩
  rw [← hM] at t1 HV ⊢
  rw [← hL] at e1 HE ⊢
  have HM := Lib.hid hM
  have HL := Lib.hid hL
  unfold maxLen at t2 e2
  have hsz : (n.bl.map (Value.int .i64)).length = 13 := by simp [hn.len]
  have HSZ := Lib.hid hsz
  have HB0 : Hid (InoB ((w.alloc (.cells #[.pointer (some ⟨p, 0, none⟩)] 40)).alloc (.cells (inoA n (.slice ea L ec)) 25)) (w.heap.size + 1) n (.slice ea L ec)) := by
    have := InoB.new (w.alloc (.cells #[.pointer (some ⟨p, 0, none⟩)] 40)) hn.len (.slice ea L ec)
    rw [show (w.alloc (.cells #[.pointer (some ⟨p, 0, none⟩)] 40)).heap.size = w.heap.size + 1 by simp] at this
    exact this
  clear h hn hr hon hob hM hL hsz
  go_enter Try.func98, Try.ntmps98
  go_wp2_with fail
  refine (tx_new (HoldsU.nil _) (fun z hz => by cases hz)).mono ?_
  rintro e w1 ⟨q, rfl, hq1, hb1⟩
  obtain ⟨s5, hs5⟩ : ∃ s5, s5 = w.heap.size := ⟨_, rfl⟩
  obtain ⟨b11, hb11⟩ : ∃ b11, b11 = w1.heap.size := ⟨_, rfl⟩
  obtain ⟨w0, hw0⟩ : ∃ w0, w0 = (w.alloc (.cells #[.pointer (some ⟨p, 0, none⟩)] 40)).alloc (.cells (inoA n (.slice ea L ec)) 25) := ⟨_, rfl⟩
  rw [← hw0] at hq1 hb1 HB0
  have hz0 : w0.heap.size = s5 + 2 := by rw [hw0, hs5]; simp
  have hc5 : w0.cell? ⟨s5, 0, none⟩ = some (.pointer (some ⟨p, 0, none⟩)) := by
    rw [hw0, hs5, World.cell?_alloc_some _ _ _ (by rw [boxed_new]; rfl), boxed_new]
    rfl
  have hbel0 : Below s5 w w0 := by
    rw [hw0, hs5]
    exact ((Below.refl _ _).alloc (Nat.le_refl _) _).alloc (by simp) _
  have hE : ∀ b, grow nob w0 w1 b → s5 + 2 ≤ b ∧ b < b11 := by
    intro b hb
    rcases hb with hb | hb
    · exact hb.elim
    · omega
  generalize grow nob w0 w1 = E at hq1 hE
  have hbox := boxed_new w1 #[Value.pointer (some ⟨q, 0, none⟩)] 40 (0, 0)
  have hs1 := hb1.size
  have hlt1 : s5 + 2 ≤ b11 := by omega
  have HT2 : Hid (SheetAt (w1.alloc (.cells #[.pointer (some ⟨q, 0, none⟩)] 40)) q E (Sh.new [])) := hq1.mod ((Mod.refl nob w1).alloc _) (fun _ _ h => h)
  have hm2 : Mod nob w0 (w1.alloc (.cells #[.pointer (some ⟨q, 0, none⟩)] 40)) := (mod_of_below hb1).step ((Mod.refl nob w1).alloc _) (fun _ h => h)
  have HBE2 : Hid (Below s5 w (w1.alloc (.cells #[.pointer (some ⟨q, 0, none⟩)] 40))) := hbel0.trans (hm2.below (by omega) (fun _ h => h.elim))
  have HI2 : Hid (InoB (w1.alloc (.cells #[.pointer (some ⟨q, 0, none⟩)] 40)) (s5 + 1) n (.slice ea L ec)) := by
    rw [← hs5] at HB0
    exact HB0.out.mod hm2 (fun h => h)
  have H5 : Hid ((w1.alloc (.cells #[.pointer (some ⟨q, 0, none⟩)] 40)).cell? ⟨s5, 0, none⟩ = some (.pointer (some ⟨p, 0, none⟩))) := hm2.cell hc5 (fun h => h)
  have H11 : Hid ((w1.alloc (.cells #[.pointer (some ⟨q, 0, none⟩)] 40)).cell? ⟨b11, 0, none⟩ = some (.pointer (some ⟨q, 0, none⟩))) := by rw [hb11]; exact hbox 0
  have HZ2 : Hid ((w1.alloc (.cells #[.pointer (some ⟨q, 0, none⟩)] 40)).heap.size = b11 + 1) := by unfold Hid; rw [hb11]; simp
  have HE' := Lib.hid hE
  rw [← hs5]
  have HS5 := Lib.hid hs5
  clear hq1 hb1 hw0 hz0 hc5 hbel0 hbox hs1 hm2 hE HB0 hs5
  go_upto_region 2 with (fail)
  rw [← hb11]
  clear hb11
  generalize w1.alloc (.cells #[.pointer (some ⟨q, 0, none⟩)] 40) = w2 at *
  have HRB2 := Lib.hid (HI2.out.at.blocks HNO.out.len)
  have hth : ((w2.alloc (.cells z13 22)).there w2.heap.size 0 (n.bl.map (Value.int .i64)).toArray.size) := by
    rw [show (n.bl.map (Value.int .i64)).toArray.size = 13 by simp [HNO.out.len]]
    exact arr_there w2 _
  rw [HZ2.out] at hth
  have HTH := Lib.hid hth
  have hone : (n.bl.map (Value.int .i64)).toArray.all (·.oneCell') = true := all_oneCell_toArray (ints_oneCell _ _)
  have HONE := Lib.hid hone
  have HISZ : Hid ((Try.prog.info? 22).map (·.size) = some (n.bl.map (Value.int .i64)).toArray.size) := by
    unfold Hid
    rw [show (n.bl.map (Value.int .i64)).toArray.size = 13 by simp [HNO.out.len]]
    exact Try.info13
  have hrow := arr_row w2 22 (n.bl.map (Value.int .i64)) HSZ.out
  rw [HZ2.out] at hrow
  have HROW := Lib.hid hrow
  have hz2 := HZ2.out
  clear hth hone hrow
  go_upto_region 3 with (first
    | (with_reducible refine wpList_load_mid (op := ⟨some 18, _, _, _, _, _⟩) rfl 22 _ rfl (s5 + 1) (0 + 4) rfl (n.bl.map (Value.int .i64)) _ HRB2.out Try.underlying22 rfl (by rw [HSZ.out]; exact Try.info13) ?_)
    | (refine wpList_store_mid (op := ⟨none, _, _, _, _, _⟩) rfl 22 _ _ rfl (b11 + 1) 0 (n.bl.map (Value.int .i64)).toArray rfl rfl HTH.out HISZ.out HONE.out ?_))
  go_frame
  have hcs : ((nums own).take M).length = M := by rw [List.length_take, nums_len, ← HM.out]; omega
  have HCS := Lib.hid hcs
  have HMN : Hid (M = need1 n) := by unfold Hid; rw [HM.out]; exact HON.out
  have HSPL : Hid (splice (n.bl.map (Value.int .i64)) 0 ((nums own).take M) = (blOf n own).map (Value.int .i64)) := by
    unfold Hid splice blOf
    rw [List.take_zero, List.nil_append, Nat.zero_add, hcs, ← HMN.out, List.map_append, List.map_drop, List.map_map, List.map_take]
    rfl
  have HV2 := Lib.hid ((HV.out.below (by rw [← HS5.out]; exact HBE2.out)))
  generalize (w2.alloc (.cells z13 22)).setCells (b11 + 1) 0 (n.bl.map (Value.int .i64)) = w3 at *
  have hpos : 0 < ((nums own).take M).length → (some (⟨b11 + 1, 0, none⟩ : Addr) = some ⟨b11 + 1, 0, none⟩) ∧ ∃ ad, ta = some ad ∧ ∀ j v, ((nums own).take M)[j]? = some v → w3.cell? (ad.add j) = some v := by
    intro hp
    rw [HCS.out] at hp
    obtain ⟨ao', c', e, -, -, h0, hc⟩ := HV2.out.cells
    simp only [Value.slice.injEq] at e
    obtain ⟨rfl, -, rfl⟩ := e
    cases ta with
    | none => have := (h0 rfl).1; rw [← HM.out] at this; omega
    | some ad =>
      refine ⟨rfl, ad, rfl, fun j v hj => ?_⟩
      rw [List.getElem?_take] at hj
      split at hj
      · have hc2 := hc ad rfl j v hj
        exact (mod_of_below (by rw [hz2]; exact HROW.out.2) : Mod nob w2 w3).cell hc2 (fun h => h)
      · cases hj
  have HPOS := Lib.hid hpos
  clear hpos hcs
  have hM0 : (0 : Int) ≤ (M : Int) := Int.natCast_nonneg _
  go_cut [19, 20, 21] (fun _ _ _ wc => Hid (wc.heap[b11 + 1]? = some (.cells ((blOf n own).map (Value.int .i64)).toArray 22 (0, 0))) ∧ Hid (Below (b11 + 1) w2 wc))
  case first =>
    go_wp2_with (with_reducible refine wpList_copy_splice (o := ⟨some 21, _, _, _, _, _⟩) rfl _ _ 56 56 rfl 3 Try.underlying56 (by kernel_rfl) _ _ _ _ _ _ rfl rfl (b11 + 1) 0 (n.bl.map (Value.int .i64)) 22 HROW.out.1 ((nums own).take M) (by rw [HCS.out]; exact (Nat.min_eq_left (by omega)).symm) HPOS.out (by rw [HCS.out, HSZ.out]; omega) (fun u hu => nums_one own u (List.mem_of_mem_take hu)) (b11 + 1) w2 HROW.out.2 (Nat.le_refl _) ?_)
    intro wd hh hbd
    go_wp2_with fail
    go_meet
    case rel => exact ⟨by unfold Hid; rw [← HSPL.out]; exact hh.out, hbd⟩
  case rest =>
    obtain ⟨HXR, HBX⟩ := hcut
    obtain ⟨w4, rfl⟩ : ∃ w4 : World, w4 = wc := ⟨_, rfl⟩
    have HM24 : Hid (Mod nob w2 w4) := mod_of_below (by rw [hz2]; exact HBX.out)
    have HI4 := Lib.hid (HI2.out.mod HM24.out (fun h => h))
    have HT4 := Lib.hid (HT2.out.mod HM24.out (fun _ _ h => h))
    have c5 := HM24.out.cell H5.out (fun h => h)
    have c11 := HM24.out.cell H11.out (fun h => h)
    have HBE4 : Hid (Below s5 w w4) := HBE2.out.trans (HBX.out.mono (by have := hlt1; omega))
    clear HROW HTH HISZ HONE HRB2 HPOS HSPL HCS hz2 HZ2 HT2 HI2 H5 H11 HBE2 HV2
    have HRI4 := Lib.hid (HI4.out.at.range HNO.out.len)
    have hlen : (inoL n (.slice ea L ec)).length = 18 := inoL_len HNO.out.len _
    have HTAG : Hid (∀ wx, Calls Try.prog 90 #[.agg (inoL n (.slice ea L ec)).toArray] wx fun e w' => e = .returned (.int .u64 (tagW n)) ∧ Below wx.heap.size wx w') := fun wx => tag_any HNO.out.len ⟨HR.out.small.1, HR.out.small.2.1, HR.out.small.2.2.1⟩
    have htw : 0 ≤ tagW n ∧ tagW n < 18446744073709551616 := by
      have := HR.out.small
      unfold tagW
      omega
    have hsm := HR.out.small.2.2.2
    obtain ⟨sz, hsz⟩ : ∃ sz, sz = n.size := ⟨_, rfl⟩
    rw [← hsz] at hsm
    have HSI := Lib.hid hsz
    obtain ⟨tg, htg⟩ : ∃ tg, tg = tagW n := ⟨_, rfl⟩
    rw [← htg] at htw HTAG
    have HTG := Lib.hid htg
    have hnE1 : Hid (¬ E b11) := fun h => by have := (HE'.out b11 h).2; omega
    have hnE2 : Hid (¬ E (s5 + 1)) := fun h => by have := (HE'.out _ h).1; omega
    have hwas : (Sh.new []).was.length = 0 := rfl
    have HWAS := Lib.hid hwas
    have HRID : Hid (w4.drew.rangeAt (s5 + 1) 0 (inoL n (.slice ea L ec))) := HRI4.out
    have hc11d : w4.drew.cell? ⟨b11, 0, none⟩ = some (.pointer (some ⟨q, 0, none⟩)) := c11
    have HC11 := Lib.hid hc11d
    clear hsz htg hwas hc11d
    have hu37 := Try.underlying25
    have hi37 : (Try.prog.info? 25).map (·.size) = some (inoL n (.slice ea L ec)).length := by rw [hlen]; exact Try.info18
    have hone18 : ∀ v ∈ inoL n (.slice ea L ec), v.oneCell' = true := inoL_one rfl
    have hr4 := HRI4.out
    go_upto_region 4 with (fail)
    clear hr4
    have HU37 := Lib.hid hu37
    have HI37 := Lib.hid hi37
    clear hu37 hi37 hone18 hlen
    refine wp_region_noPanic ?_
    refine wp_region_held_drew (S := fun w' => w'.cell? ⟨b11, 0, none⟩ = some (.pointer (some ⟨q, 0, none⟩)) ∧ w'.rangeAt (s5 + 1) 0 (inoL n (.slice ea L ec))) (by kernel_rfl) ⟨HC11.out, HRID.out⟩ (fun hHeld => ?_)
    refine wpAnyH_take (i := 0) (v := .pointer (some ⟨q, 0, none⟩)) rfl (by kernel_rfl) (by kernel_rfl) (by kernel_rfl) (fun _ _ _ h => h) (Or.inl ⟨by rfl, ?_⟩) hHeld ?_
    case refine_1 =>
      rintro wx ⟨hcx, -⟩
      go_simp
    simp only [Act.put, List.setIfInBounds_toArray, List.set_cons_zero, List.set_cons_succ]
    refine wpAnyH_take (i := 1) (v := .int .i64 at_) rfl (by kernel_rfl) (by kernel_rfl) (by kernel_rfl) (fun _ _ _ h => h) (Or.inl ⟨by rfl, ?_⟩) hHeld ?_
    case refine_1 =>
      rintro wx -
      go_simp
    simp only [Act.put, List.setIfInBounds_toArray, List.set_cons_zero, List.set_cons_succ]
    refine wpAnyH_take (i := 2) (v := .agg (inoL n (.slice ea L ec)).toArray) rfl (by kernel_rfl) (by kernel_rfl) (by kernel_rfl) (fun _ _ _ h => h) (yieldsIf_load_mid (by rfl) 25 _ rfl (s5 + 1) 0 rfl _ _ (fun _ h => h.2) HU37.out rfl HI37.out) hHeld ?_
    simp only [Act.put, List.setIfInBounds_toArray, List.set_cons_zero, List.set_cons_succ]
    refine wpAnyH_ready (rs := [3]) (by kernel_rfl) (by simp) ?_
    refine AllReadyH.cons rfl (fun K hK => ?_) AllReadyH.nil
    go_simp
    refine (HTAG.out _).mono ?_
    rintro e w5 ⟨rfl, hb5'⟩
    have hb5 := Lib.hid (mod_of_below hb5')
    go_wp2_with fail
    refine hK.out _ _ ⟨hb5.out.cell HC11.out (fun h => h), fun j v hj => hb5.out.cell (HRID.out j v hj) (fun h => h)⟩ (fun hHeld2 => ?_)
    clear hK K
    try simp only [Act.put, List.setIfInBounds_toArray, List.set_cons_zero, List.set_cons_succ]
    refine wpAnyH_ready (rs := [4]) (by kernel_rfl) (by simp) ?_
    refine AllReadyH.cons rfl (fun K hK => ?_) AllReadyH.nil
    go_simp
    have HM45 : Hid (Mod nob w4 w5) := ((Mod.refl nob w4).drew).step hb5.out (fun _ h => h)
    have HK5 := Lib.hid (ShStep.at w4 HT4.out HM45.out)
    refine (sheet_put HK5.out.1 (by rw [HWAS.out]; omega) _ tg htw.1 htw.2).mono ?_
    rintro e w6 ⟨rfl, h6', m6'⟩
    have HK6 := Lib.hid (HK5.out.step h6' m6')
    have m6 := Lib.hid HK6.out.2
    clear h6' m6'
    go_wp2_with fail
    refine hK.out _ _ ⟨(m6.out.cell (hb5.out.cell HC11.out (fun h => h)) hnE1.out), (fun j v hj => m6.out.cell (hb5.out.cell (HRID.out j v hj) (fun h => h)) hnE2.out)⟩ (fun hHeld3 => ?_)
    clear hK K
    try simp only [Act.put, List.setIfInBounds_toArray, List.set_cons_zero, List.set_cons_succ]
    refine wpAnyH_done (by kernel_rfl) ?_ _
    refine NoPanic.normal ?_
    have HI5 := Lib.hid (HI4.out.mod HM45.out (fun h => h))
    have HI6 := Lib.hid (HI5.out.mod m6.out hnE2.out)
    have c3 := HI6.out.at.c3
    rw [← HSI.out] at c3
    have c11' := hHeld3.1
    have HW6 : Hid (((Sh.new []).put at_ tg).was.length ≤ 1) := by
      unfold Hid
      have h1 := Sh.put_was_le (Sh.new []) at_ tg
      have := HWAS.out
      omega
    have hz : (1 : Int) ≤ at_ + 1 ∧ at_ + 1 ≤ 3001 := by omega
    clear hHeld hHeld2 hHeld3 hb5' HC11 HRID
    go_wp2_with fail
    refine (sheet_put HK6.out.1 (by have := HW6.out; omega) _ sz hsm.1 (by omega)).mono ?_
    rintro e w7 ⟨rfl, h7, m7⟩
    have HK7 := Lib.hid (HK6.out.step h7 m7)
    have HI7 := Lib.hid (HI5.out.mod HK7.out.2 hnE2.out)
    have hX4 : w4.rangeAt (b11 + 1) 0 ((blOf n own).map (Value.int .i64)) := fun j v hj => by
      rw [cell_of_row w4 (b11 + 1) (0 + j) _ _ _ HXR.out]
      simpa using hj
    have hnE3 : Hid (¬ E (b11 + 1)) := fun h => by have := (HE'.out _ h).2; omega
    have HX7 : Hid (w7.rangeAt (b11 + 1) 0 ((blOf n own).map (Value.int .i64))) := fun j v hj => HK7.out.2.cell (HM45.out.cell (hX4 j v hj) (fun h => h)) hnE3.out
    have c11b := HK7.out.2.cell (HM45.out.cell c11 (fun h => h)) hnE1.out
    have HW7 : Hid ((((Sh.new []).put at_ tg).put (at_ + 1) sz).was.length ≤ 2) := by
      unfold Hid
      have h1 := Sh.put_was_le ((Sh.new []).put at_ tg) (at_ + 1) sz
      have := HW6.out
      omega
    have hbl : (blOf n own).length = 13 := blOf_len n HNO.out.len own (by rw [← HON.out]; exact Nat.le_refl _) (by rw [← HMN.out]; omega)
    have HBL := Lib.hid hbl
    have hbm : ((blOf n own).map (Value.int .i64)).length = 13 := by rw [List.length_map, hbl]
    have HBM := Lib.hid hbm
    have hbv : ∀ k, k < 13 → 0 ≤ (blOf n own).getD k 0 ∧ (blOf n own).getD k 0 < 256 := by
      intro k hk
      rw [blOf_get HNO.out.len own (by rw [← HON.out]; exact Nat.le_refl _) k hk]
      split
      · rename_i h
        have := HOB.out (own.getD k 0) (by
          rw [List.getD_eq_getElem?_getD, List.getElem?_eq_getElem (by rw [HON.out]; exact h)]
          exact List.getElem_mem _)
        omega
      · exact HR.out.blk k hk
    have HBV := Lib.hid hbv
    clear h7 m7 hX4 hbl hbm hbv c3 c11'
    go_wp2_with (with_reducible refine wpList_load_mid (op := ⟨some 36, _, _, _, _, _⟩) rfl 22 _ rfl (b11 + 1) 0 rfl ((blOf n own).map (Value.int .i64)) _ HX7.out Try.underlying22 rfl (by rw [HBM.out]; exact Try.info13) ?_)
    refine (numbers_any HK7.out.1 (by have := HW7.out; omega) at_ (by omega) (blOf n own) HBL.out HBV.out list ⟨l0, l1⟩).mono ?_
    rintro e w8 ⟨rfl, h8⟩
    have HK8 := Lib.hid (HK7.out.step' h8)
    have HI8 := Lib.hid (HI5.out.mod HK8.out.2 hnE2.out)
    have c17 := HI8.out.at.ev
    have c11c := HK8.out.2.cell (HM45.out.cell c11 (fun h => h)) hnE1.out
    have HW8 : Hid ((numbersS (((Sh.new []).put at_ tg).put (at_ + 1) sz) at_ (blOf n own) list).was.length ≤ 20) := by
      unfold Hid numbersS
      have h1 := numbersTo_was (((Sh.new []).put at_ tg).put (at_ + 1) sz) at_ (blOf n own) list 13
      have h2 := Sh.put_was_le (numbersTo (((Sh.new []).put at_ tg).put (at_ + 1) sz) at_ (blOf n own) list 13) (at_ + 7) list
      have := HW7.out
      omega
    have HB5w : Hid (Below s5 w w5) := HBE4.out.trans (HM45.out.below (by have := lt_of_block HXR.out; omega) (fun _ h => h.elim))
    have HN5 := Lib.hid (HV.out.below (by rw [← HS5.out]; exact HB5w.out))
    have HE5 := Lib.hid (HE.out.below (by rw [← HS5.out]; exact HB5w.out))
    have hnd : own ≠ [] → ∀ g, (Value.slice ta M tc).ownBlock = some g → ¬ E g ∧ g < w5.heap.size := by
      intro hne g hg
      have h1 := HV.out.lt hne g hg
      have h2 := HB5w.out.size
      have h3 := HS5.out
      refine ⟨fun hd => ?_, by omega⟩
      have := (HE'.out g hd).1
      omega
    have hed : n.ents ≠ [] → ∀ g, (Value.slice ea L ec).ownBlock = some g → ¬ E g ∧ g < w5.heap.size := by
      intro hne g hg
      have h1 := HE.out.lt hne g hg
      have h2 := HB5w.out.size
      have h3 := HS5.out
      refine ⟨fun hd => ?_, by omega⟩
      have := (HE'.out g hd).1
      omega
    have HN8 := Lib.hid (HN5.out.mod HK8.out.2 (fun hne g hg => (hnd hne g hg).1))
    have HE8 := Lib.hid (HE5.out.mod HK8.out.2 (fun hne g hg => (hed hne g hg).1))
    have hnd8 : own ≠ [] → ∀ g, (Value.slice ta M tc).ownBlock = some g → ¬ grow E w5 w8 g := fun hne g hg hd => by
      have h1 := hnd hne g hg
      rcases hd with hd | hd
      · exact h1.1 hd
      · omega
    have hed8 : n.ents ≠ [] → ∀ g, (Value.slice ea L ec).ownBlock = some g → ¬ grow E w5 w8 g := fun hne g hg hd => by
      have h1 := hed hne g hg
      rcases hd with hd | hd
      · exact h1.1 hd
      · omega
    have HENT := Lib.hid (entries_any HK8.out.1 (by have := HW8.out; omega) HN8.out HE8.out hnd8 hed8 HOB.out HR.out.ents (by rw [HON.out]; unfold need1; omega) (fun k hk => by have := HR.out.entOK k hk; exact ⟨this.1, this.2.2⟩))
    have HND := Lib.hid hnd
    clear hnd hed hnd8 hed8 h8 c11b
    go_wp2_with fail
    refine HENT.out.mono ?_
    rintro e w9 ⟨rfl, h9⟩
    have HK9 := Lib.hid (HK8.out.step' h9)
    have hval : entriesS (numbersS (((Sh.new []).put at_ tg).put (at_ + 1) sz) at_ (blOf n own) list) own n.ents = lay1Q (Sh.new []) at_ n own list := by
      unfold lay1Q
      rw [HTG.out, HSI.out]
    rw [hval] at HK9
    obtain ⟨T, hT⟩ : ∃ T, T = lay1Q (Sh.new []) at_ n own list := ⟨_, rfl⟩
    rw [← hT] at HK9
    have HTQ := Lib.hid hT
    have m49 : Hid (Mod E w4 w9) := (HM45.out.mono (fun b _ hb => hb.elim)).trans (HK9.out.2.mono (fun b _ hb => .inl hb))
    have c5' := m49.out.cell c5 (fun h => by have := (HE'.out s5 h).1; omega)
    have c11d := m49.out.cell c11 hnE1.out
    have HX9 : Hid (w9.rangeAt (b11 + 1) 0 ((blOf n own).map (Value.int .i64))) := fun j v hj => by
      refine m49.out.cell ?_ hnE3.out
      rw [cell_of_row w4 (b11 + 1) (0 + j) _ _ _ HXR.out]
      simpa using hj
    have HBE9 : Hid (Below s5 w w9) := HB5w.out.trans (HK9.out.2.below (by have := HB5w.out.size; have := HS5.out; omega) (fun b hb => by have := (HE'.out b hb).1; omega))
    have HS9 : Hid (SheetAt w9 p D S) := HSH.out.mod (mod_of_below (by rw [← HS5.out]; exact HBE9.out)) (fun _ _ h => h)
    have HN9 : Hid (HoldsN w9 (.slice ta M tc) own) := HN5.out.mod HK9.out.2 (fun hne g hg => (HND.out hne g hg).1)
    have HSAME : Hid (∀ wx, Mod nob w9 wx → ∀ fr : Int, 0 ≤ fr ∧ fr ≤ 4000 → Calls Try.prog 121 #[.int .i64 fr, .pointer (some ⟨s5, 0, none⟩), .pointer (some ⟨b11, 0, none⟩)] wx fun e w' => e = .returned (.bool (sameB S T fr)) ∧ ∃ n, w' = wx.drewN n) :=
      fun wx hm fr hf => same_any (HS9.out.mod hm (fun _ _ h => h)) (HK9.out.1.mod hm (fun _ _ h => h)) s5 b11 (hm.cell c5' (fun h => h)) (hm.cell c11d (fun h => h)) fr hf
    have hX9c := HX9.out
    have HLONG : Hid (∀ wx, Calls Try.prog 88 #[.agg ((blOf n own).map (Value.int .i64)).toArray] wx fun e w' => e = .returned (.bool (longB (blOf n own))) ∧ Below wx.heap.size wx w') := fun wx => long_any _ HBL.out
    clear h9 hval hT hX9c
    clear m6 HK5 HK6 HK7 HK8 HI5 HI6 HI7 HI8 HX7 HW6 HW7 HW8 HENT HN5 HE5 HN8 HE8 c17 c11 c5 c11c HU37 HI37 HTAG HRI4 HM24 HBX HT4 hb5
    by_cases hsm1 : SameTo S T at_ 8
    · have HSM1 := Lib.hid hsm1
      have hsb : sameB S T at_ = true := (sameB_iff _ _ _).2 hsm1
      have hc := HSAME.out w9 (Mod.refl nob w9) at_ (by omega)
      rw [hsb] at hc
      have HC := Lib.hid hc
      obtain ⟨lb, hlb⟩ : ∃ lb, lb = longB (blOf n own) := ⟨_, rfl⟩
      rw [← hlb] at HLONG
      have HLB := Lib.hid hlb
      clear hc hsm1 hsb hlb
      go_upto_region 9 with (fail)
      go_cut [4, 37, 45, 46, 47, 48, 49, 50, 51, 52, 53, 54, 55] (fun v4 _ _ _ _ _ _ _ _ _ _ _ v wc => v4 = .int .i64 list ∧ ∃ b : Bool, v = .bool b ∧ Hid (b = false ↔ (list ≠ 0 ↔ LongP (blOf n own))) ∧ Hid (Mod nob w9 wc))
      case first =>
        have HXD : Hid (∀ nn : Nat, (w9.drewN nn).rangeAt (b11 + 1) 0 ((blOf n own).map (Value.int .i64))) := fun nn j v hj => ((Mod.refl nob w9).drewN nn).cell (HX9.out j v hj) (fun h => h)
        have hL : Hid (LongP (blOf n own) ↔ lb = true) := by unfold Hid; rw [HLB.out]; exact (longB_iff _).symm
        by_cases hl0 : list = 0
        · cases lb with
          | false =>
            go_wp2_with (first
              | (go_at_call 121; refine HC.out.mono ?_; rintro e w10 ⟨rfl, nn, rfl⟩)
              | ((refine wpList_unguard (o := ⟨some 52, _, _, _, _, _⟩) (by rfl) ?_; with_reducible refine wpList_load_mid rfl 22 _ rfl (b11 + 1) 0 rfl ((blOf n own).map (Value.int .i64)) _ (HXD.out nn) Try.underlying22 rfl (by rw [HBM.out]; exact Try.info13) ?_))
              | (go_at_call 88; refine (HLONG.out _).mono ?_; rintro e w11 ⟨rfl, hb11'⟩))
            go_meet
            case rel => exact ⟨by rw [hl0], _, rfl, by unfold Hid; rw [hL.out]; simp [hl0], ((Mod.refl nob w9).drewN nn).step (mod_of_below hb11') (fun _ h => h)⟩
          | true =>
            go_wp2_with (first
              | (go_at_call 121; refine HC.out.mono ?_; rintro e w10 ⟨rfl, nn, rfl⟩)
              | ((refine wpList_unguard (o := ⟨some 52, _, _, _, _, _⟩) (by rfl) ?_; with_reducible refine wpList_load_mid rfl 22 _ rfl (b11 + 1) 0 rfl ((blOf n own).map (Value.int .i64)) _ (HXD.out nn) Try.underlying22 rfl (by rw [HBM.out]; exact Try.info13) ?_))
              | (go_at_call 88; refine (HLONG.out _).mono ?_; rintro e w11 ⟨rfl, hb11'⟩))
            go_meet
            case rel => exact ⟨by rw [hl0], _, rfl, by unfold Hid; rw [hL.out]; simp [hl0], ((Mod.refl nob w9).drewN nn).step (mod_of_below hb11') (fun _ h => h)⟩
        · cases lb with
          | false =>
            go_wp2_with (first
              | (go_at_call 121; refine HC.out.mono ?_; rintro e w10 ⟨rfl, nn, rfl⟩)
              | ((refine wpList_unguard (o := ⟨some 52, _, _, _, _, _⟩) (by rfl) ?_; with_reducible refine wpList_load_mid rfl 22 _ rfl (b11 + 1) 0 rfl ((blOf n own).map (Value.int .i64)) _ (HXD.out nn) Try.underlying22 rfl (by rw [HBM.out]; exact Try.info13) ?_))
              | (go_at_call 88; refine (HLONG.out _).mono ?_; rintro e w11 ⟨rfl, hb11'⟩))
            go_meet
            case rel => exact ⟨rfl, _, rfl, by unfold Hid; rw [hL.out]; simp [hl0], ((Mod.refl nob w9).drewN nn).step (mod_of_below hb11') (fun _ h => h)⟩
          | true =>
            go_wp2_with (first
              | (go_at_call 121; refine HC.out.mono ?_; rintro e w10 ⟨rfl, nn, rfl⟩)
              | ((refine wpList_unguard (o := ⟨some 52, _, _, _, _, _⟩) (by rfl) ?_; with_reducible refine wpList_load_mid rfl 22 _ rfl (b11 + 1) 0 rfl ((blOf n own).map (Value.int .i64)) _ (HXD.out nn) Try.underlying22 rfl (by rw [HBM.out]; exact Try.info13) ?_))
              | (go_at_call 88; refine (HLONG.out _).mono ?_; rintro e w11 ⟨rfl, hb11'⟩))
            go_meet
            case rel => exact ⟨rfl, _, rfl, by unfold Hid; rw [hL.out]; simp [hl0], ((Mod.refl nob w9).drewN nn).step (mod_of_below hb11') (fun _ h => h)⟩
      case rest =>
        obtain ⟨rfl, b, rfl, HB1, HMC⟩ := hcut
        cases b with
        | true =>
          go_wp2_with fail
          go_ret
          have hfin : exactB S at_ n own list = false := exactB_false (fun h => absurd (HB1.out.2 h.2.1) (by simp))
          rw [hfin]
          exact ⟨rfl, HS5.out ▸ HBE9.out.trans (HMC.out.below (by have := HBE9.out.size; have := HS5.out; omega) (fun _ h => h.elim))⟩
        | false =>
          have HIFF := Lib.hid (HB1.out.1 rfl)
          clear HB1
          go_wp2_with fail
          go_loopg [15, 58] M (fun gk _ iv wr => ∃ k : Nat, k + gk = M ∧ iv = .int .i64 k ∧ Hid (∀ j, j < k → SameTo S T (1080 + ((own.getD j 0 : Nat) : Int) * 8) 8) ∧ Hid (Mod nob w9 wr))
          case atStart => exact ⟨0, by omega, rfl, (fun j hj => by omega), HMC.out⟩
          case round =>
            obtain ⟨k, hk, rfl, HAL, HMR⟩ := hrel
            by_cases hlt : k < M
            · have hki : (k : Int) < (M : Int) := by omega
              have hk0 : (0 : Int) ≤ (k : Int) := Int.natCast_nonneg _
              obtain ⟨ta', tc', e, -, -, -, hcell⟩ := HN9.out.mod HMR.out (fun _ _ _ h => h)
              simp only [Value.slice.injEq] at e
              obtain ⟨rfl, -, rfl⟩ := e
              obtain ⟨g, o, rfl, d1⟩ := hcell k (by rw [← HM.out]; exact hlt)
              have hb256 : own.getD k 0 < 256 := by
                rw [List.getD_eq_getElem?_getD, List.getElem?_eq_getElem (by rw [← HM.out]; exact hlt)]
                exact HOB.out _ (List.getElem_mem _)
              obtain ⟨x, hx⟩ : ∃ x, x = own.getD k 0 := ⟨_, rfl⟩
              rw [← hx] at d1 hb256
              have hblk := block_any (x : Int) wr
              rw [if_neg (by omega)] at hblk
              have HBLK := Lib.hid hblk
              have HX := Lib.hid hx
              have hsame := HSAME.out wr HMR.out (1080 + (x : Int) * 8) (by omega)
              clear hblk hx hcell
              by_cases hsx : SameTo S T (1080 + (x : Int) * 8) 8
              · rw [(sameB_iff _ _ _).2 hsx] at hsame
                have HSX := Lib.hid hsx
                have HCS := Lib.hid hsame
                clear hsx hsame
                go_wp2_with (first
                  | (go_at_call 105; refine HBLK.out.mono ?_; rintro e w10 ⟨rfl, rfl⟩)
                  | (go_at_call 121; refine HCS.out.mono ?_; rintro e w10 ⟨rfl, nn, rfl⟩))
                go_roundg (gk - 1)
                case measure => omega
                case rel =>
                  refine ⟨k + 1, by omega, by go_num, fun j hj => ?_, HMR.out.drewN nn⟩
                  by_cases e : j = k
                  · subst e
                    rw [← HX.out]
                    exact HSX.out
                  · exact HAL.out j (by omega)
              · rw [sameB_false hsx] at hsame
                have HCS := Lib.hid hsame
                have hfin : exactB S at_ n own list = false := exactB_false (fun h => hsx (by rw [HX.out, HTQ.out]; exact h.2.2.1 k (by rw [← HM.out]; exact hlt)))
                have HFIN := Lib.hid hfin
                clear hsx hsame hfin
                go_wp2_with (first
                  | (go_at_call 105; refine HBLK.out.mono ?_; rintro e w10 ⟨rfl, rfl⟩)
                  | (go_at_call 121; refine HCS.out.mono ?_; rintro e w10 ⟨rfl, nn, rfl⟩))
                go_ret
                rw [HFIN.out]
                exact ⟨rfl, HS5.out ▸ HBE9.out.trans ((HMR.out.drewN nn).below (by have := HBE9.out.size; have := HS5.out; omega) (fun _ h => h.elim))⟩
            · have hkM : k = M := by omega
              have hki : ¬ (k : Int) < (M : Int) := by omega
              have HAM : Hid (∀ j, j < own.length → SameTo S T (1080 + ((own.getD j 0 : Nat) : Int) * 8) 8) := fun j hj => HAL.out j (by rw [hkM, HM.out]; exact hj)
              clear hkM
              by_cases hl0 : list = 0
              · have hfin : exactB S at_ n own list = true := (exactB_iff _ _ _ _ _).2 ⟨HTQ.out ▸ HSM1.out, HIFF.out, HTQ.out ▸ HAM.out, fun h => absurd hl0 h⟩
                rw [hl0] at hfin
                have HFIN := Lib.hid hfin
                clear hfin
                go_wp2_with fail
                go_ret
                rw [HFIN.out]
                exact ⟨rfl, HS5.out ▸ HBE9.out.trans (HMR.out.below (by have := HBE9.out.size; have := HS5.out; omega) (fun _ h => h.elim))⟩
              · have hblk := block_any list wr
                rw [if_neg (by omega)] at hblk
                have HBLK := Lib.hid hblk
                have hsame := HSAME.out wr HMR.out (1080 + list * 8) (by omega)
                obtain ⟨sb, hsb⟩ : ∃ sb, sb = sameB S T (1080 + list * 8) := ⟨_, rfl⟩
                rw [← hsb] at hsame
                have HCS := Lib.hid hsame
                have hfin : exactB S at_ n own list = sb := by
                  rw [hsb]
                  by_cases e : SameTo S T (1080 + list * 8) 8
                  · rw [(sameB_iff _ _ _).2 e]
                    exact (exactB_iff _ _ _ _ _).2 ⟨HTQ.out ▸ HSM1.out, HIFF.out, HTQ.out ▸ HAM.out, fun _ => HTQ.out ▸ e⟩
                  · rw [sameB_false e]
                    exact exactB_false (fun h => e (by rw [HTQ.out]; exact h.2.2.2 hl0))
                have HFIN := Lib.hid hfin
                have hz : (list == 0) = false := by simpa using hl0
                have HZ := Lib.hid hz
                clear hblk hsame hfin hsb hz
                go_wp2_with (first
                  | (go_at_call 105; refine HBLK.out.mono ?_; rintro e w10 ⟨rfl, rfl⟩)
                  | (go_at_call 121; refine HCS.out.mono ?_; rintro e w10 ⟨rfl, nn, rfl⟩))
                go_ret
                rw [HFIN.out]
                exact ⟨by show Ending.returned (Value.bool (list == 0 || sb)) = _; rw [HZ.out]; rfl, HS5.out ▸ HBE9.out.trans ((HMR.out.drewN nn).below (by have := HBE9.out.size; have := HS5.out; omega) (fun _ h => h.elim))⟩
    · have hsb : sameB S T at_ = false := sameB_false hsm1
      have hfin : exactB S at_ n own list = false := exactB_false (fun h => hsm1 (by rw [HTQ.out]; exact h.1))
      have hc := HSAME.out w9 (Mod.refl nob w9) at_ (by omega)
      rw [hsb] at hc
      have HC := Lib.hid hc
      have HFIN := Lib.hid hfin
      clear hc hsm1 hfin hsb
      go_wp2_with (go_at_call 121; refine HC.out.mono ?_; rintro e w10 ⟨rfl, nn, rfl⟩)
      go_ret
      rw [HFIN.out]
      exact ⟨rfl, HS5.out ▸ HBE9.out.trans (((Mod.refl nob w9).drewN nn).below (by have := HBE9.out.size; have := HS5.out; omega) (fun _ h => h.elim))⟩
end Go.Proofs.Ytlopdbhjdijlmaa
