/-
  fmt2.bucket, fmt2.dir, fmt2.put, fmt2.Lay: contracts. No condition but the bounds that are typed.
  fmt2.dir, fmt2.put: contracts. No condition but the bounds that are typed.
  fmt2.put: a contract. No condition but the inode's being right.
-/
import Derived.Test.YtlopdbhjdijlmaaQNeed2

namespace Go.Proofs.Ytlopdbhjdijlmaa
open Go.ChangeShapes Go.WideShapes Go.ChangeAt Go.RowKit
set_option linter.unusedSimpArgs false
set_option linter.unusedVariables false

/-- A bucket's blocks, each with the next one's number. -/
def linkS (S : Sh) (own : List Nat) : Nat → Sh
  | 0 => S
  | k + 1 => (linkS S own k).put (1080 + ((own.getD k 0 : Nat) : Int) * 8) ((own.getD (k + 1) 0 : Nat) : Int)
def ent3At (S : Sh) (own : List Nat) (k : Nat) (x : En) : Sh := (S.put (1080 + ((own.getD (k / 3) 0 : Nat) : Int) * 8 + 1 + 2 * ((k % 3 : Nat) : Int)) (nword x.name : Nat)).put (1080 + ((own.getD (k / 3) 0 : Nat) : Int) * 8 + 1 + 2 * ((k % 3 : Nat) : Int) + 1) x.ino
def ent3To (S : Sh) (own : List Nat) (l : List En) : Nat → Sh
  | 0 => S
  | k + 1 => ent3At (ent3To S own l k) own k (l.getD k default)
def bucket2S (S : Sh) (l : List En) (own : List Nat) : Sh := ent3To (linkS S own own.length) own l l.length

theorem linkS_was (S : Sh) (own : List Nat) (k : Nat) : (linkS S own k).was.length ≤ S.was.length + k := by
  induction k with
  | zero => exact Nat.le_refl _
  | succ k ih => have := Sh.put_was_le (linkS S own k) (1080 + ((own.getD k 0 : Nat) : Int) * 8) ((own.getD (k + 1) 0 : Nat) : Int); simp only [linkS]; omega
theorem ent3At_was (S : Sh) (own : List Nat) (k : Nat) (x : En) : (ent3At S own k x).was.length ≤ S.was.length + 2 := by
  unfold ent3At
  have h1 := Sh.put_was_le S (1080 + ((own.getD (k / 3) 0 : Nat) : Int) * 8 + 1 + 2 * ((k % 3 : Nat) : Int)) (nword x.name : Nat)
  have h2 := Sh.put_was_le (S.put (1080 + ((own.getD (k / 3) 0 : Nat) : Int) * 8 + 1 + 2 * ((k % 3 : Nat) : Int)) (nword x.name : Nat)) (1080 + ((own.getD (k / 3) 0 : Nat) : Int) * 8 + 1 + 2 * ((k % 3 : Nat) : Int) + 1) x.ino
  omega
theorem ent3To_was (S : Sh) (own : List Nat) (l : List En) (k : Nat) : (ent3To S own l k).was.length ≤ S.was.length + 2 * k := by
  induction k with
  | zero => exact Nat.le_refl _
  | succ k ih => have := ent3At_was (ent3To S own l k) own k (l.getD k default); simp only [ent3To]; omega
theorem bucket2S_was (S : Sh) (l : List En) (own : List Nat) : (bucket2S S l own).was.length ≤ S.was.length + own.length + 2 * l.length := by
  unfold bucket2S
  have h1 := ent3To_was (linkS S own own.length) own l l.length
  have h2 := linkS_was S own own.length
  omega

theorem getD_lt {own : List Nat} (hob : ∀ b ∈ own, b < 256) (k : Nat) : own.getD k 0 < 256 := by
  by_cases h : k < own.length
  · exact hob _ (getD_in0 h)
  · rw [List.getD_eq_getElem?_getD, List.getElem?_eq_none (by omega)]
    decide

set_option maxRecDepth 20000 in
set_option maxHeartbeats 2000000 in
theorem bucket2_any {w : World} {p : Nat} {D : Nat → Prop} {S : Sh} (h : SheetAt w p D S) (hlen : S.was.length + 200 < 1099511627776) {bv ev : Value} {own : List Nat} {l : List En} (hev : HoldsE w ev l) (hbv : HoldsN w bv own)
    (hed : l ≠ [] → ∀ g, ev.ownBlock = some g → ¬ D g) (hbd : own ≠ [] → ∀ g, bv.ownBlock = some g → ¬ D g) (hob : ∀ b ∈ own, b < 256) (hl : l.length ≤ 24) (hol : own.length ≤ 40) (hcov : l.length ≤ 3 * own.length)
    (hok : ∀ k, k < l.length → goodB (l.getD k default).name.data.toList = true ∧ 0 ≤ (l.getD k default).ino ∧ (l.getD k default).ino < 32) :
    Calls Try.prog 132 #[.pointer (some ⟨p, 0, none⟩), ev, bv] w fun e w' => e = .returned (.int .i64 ((own.getD 0 0 : Nat) : Int)) ∧ ShStep w p D w' (bucket2S S l own) := by
  have HS0 := Lib.hid (ShStep.start h)
  have HB := Lib.hid hbv
  have HE := Lib.hid hev
  have HBD := Lib.hid hbd
  have HED := Lib.hid hed
  have HOB := Lib.hid hob
  have HOK := Lib.hid hok
  have HLEN := Lib.hid hlen
  obtain ⟨ba, bc, rfl, b1, b2, -, -⟩ := hbv
  obtain ⟨ea, ec, rfl, e1, e2, -, -⟩ := hev
  obtain ⟨L, hL⟩ : ∃ L, L = l.length := ⟨_, rfl⟩
  obtain ⟨M, hM⟩ : ∃ M, M = own.length := ⟨_, rfl⟩
  rw [← hL] at e1 HE hl hcov HED ⊢
  rw [← hM] at b1 HB hcov HBD hol ⊢
  have HL := Lib.hid hL
  have HM := Lib.hid hM
  unfold maxLen at b2 e2
  obtain ⟨b0, hb0⟩ : ∃ b0, b0 = own.getD 0 0 := ⟨_, rfl⟩
  rw [← hb0]
  have HB00 := Lib.hid hb0
  clear h hbd hed hob hok hlen hL hM hb0
  go_enter Try.func132, Try.ntmps132
  go_wp2_with fail
  go_loopg [7, 8, 9, 17] M (fun gk _ _ _ iv wr => ∃ k : Nat, k + gk = M ∧ iv = .int .i64 k ∧ Hid (ShStep w p D wr (linkS S own k)))
  case atStart => exact ⟨0, by omega, rfl, HS0.out⟩
  case round =>
    obtain ⟨k, hk, rfl, HST⟩ := hrel
    have HWK : Hid ((linkS S own k).was.length < 1099511627776) := by
      unfold Hid
      have := linkS_was S own k
      have := HLEN.out
      omega
    by_cases hlt : k < M
    · have hki : (k : Int) < (M : Int) := by omega
      have hk0 : (0 : Int) ≤ (k : Int) := Int.natCast_nonneg _
      have hk40 : (k : Int) < 40 := by omega
      obtain ⟨ba', bc', e, -, -, -, hcell2⟩ := HB.out.mod HST.out.2 HBD.out
      simp only [Value.slice.injEq] at e
      obtain ⟨rfl, -, rfl⟩ := e
      obtain ⟨gb, ob, rfl, d3⟩ := hcell2 k (by rw [← HM.out]; exact hlt)
      have hb256 := getD_lt HOB.out k
      have hc256 := getD_lt HOB.out (k + 1)
      have hsu : linkS S own (k + 1) = (linkS S own k).put (1080 + ((own.getD k 0 : Nat) : Int) * 8) ((own.getD (k + 1) 0 : Nat) : Int) := rfl
      have HSU := Lib.hid hsu
      have hnx : k + 1 < M → wr.cell? ⟨gb, ob + (k + 1), none⟩ = some (.int .i64 ((own.getD (k + 1) 0 : Nat) : Int)) := fun hh => by
        obtain ⟨g', o', e', d4⟩ := hcell2 (k + 1) (by rw [← HM.out]; exact hh)
        simp only [Option.some.injEq, Addr.mk.injEq, and_true] at e'
        obtain ⟨rfl, rfl⟩ := e'
        exact d4
      have hnz : ¬ k + 1 < M → own.getD (k + 1) 0 = 0 := fun hh => by
        rw [List.getD_eq_getElem?_getD, List.getElem?_eq_none (by have := HM.out; omega)]
        rfl
      generalize own.getD (k + 1) 0 = y at *
      generalize own.getD k 0 = b at *
      have hbi : (b : Int) < 256 := by omega
      have hyi : (y : Int) < 256 := by omega
      have HBL : Hid (∀ wx, Calls Try.prog 105 #[.int .i64 (b : Int)] wx fun e w' => e = .returned (.int .i64 (1080 + (b : Int) * 8)) ∧ wx = w') := by
        intro wx
        have := block_any (b : Int) wx
        rw [if_neg (by omega)] at this
        exact this
      clear hcell2 hsu
      by_cases hn : k + 1 < M
      · have hni : (k : Int) + 1 < (M : Int) := by omega
        have d4 := hnx hn
        clear hnx hnz
        go_wp2_with fail
        refine (HBL.out _).mono ?_
        rintro e w4 ⟨rfl, rfl⟩
        go_wp2_with fail
        refine (sheet_put HST.out.1 HWK.out _ (y : Int) (by omega) (by omega)).mono ?_
        rintro e w5 ⟨rfl, h5', m5⟩
        have HS5 := Lib.hid (HST.out.step h5' m5)
        clear h5' m5
        go_wp2_with fail
        go_roundg (gk - 1)
        case measure => omega
        case rel => exact ⟨k + 1, by omega, by go_num, by unfold Hid; rw [HSU.out]; exact HS5.out⟩
      · have hni : ¬ (k : Int) + 1 < (M : Int) := by omega
        obtain rfl := hnz hn
        clear hnx hnz
        go_wp2_with fail
        refine (HBL.out _).mono ?_
        rintro e w4 ⟨rfl, rfl⟩
        go_wp2_with fail
        refine (sheet_put HST.out.1 HWK.out _ 0 (by omega) (by omega)).mono ?_
        rintro e w5 ⟨rfl, h5', m5⟩
        have HS5 := Lib.hid (HST.out.step h5' m5)
        clear h5' m5
        go_wp2_with fail
        go_roundg (gk - 1)
        case measure => omega
        case rel => exact ⟨k + 1, by omega, by go_num, by unfold Hid; rw [HSU.out]; exact HS5.out⟩
    · have hge : ¬ (k : Int) < (M : Int) := by omega
      obtain ⟨MM, hMM⟩ : ∃ MM, MM = M := ⟨_, rfl⟩
      obtain rfl : k = M := by omega
      subst hMM
      obtain ⟨Q, hQ⟩ : ∃ Q, Q = linkS S own MM := ⟨_, rfl⟩
      have HQQ := Lib.hid hQ
      have hqw : Q.was.length ≤ S.was.length + 40 := by rw [hQ]; have := linkS_was S own MM; omega
      have HQW := Lib.hid hqw
      have HST0 : Hid (ShStep w p D wr Q) := by unfold Hid; rw [hQ]; exact HST.out
      clear hQ hqw HST HWK
      go_wp2_with fail
      go_loopg [10, 11, 12, 13, 14, 41] L (fun gk _ _ _ _ _ iv wr => ∃ j : Nat, j + gk = L ∧ iv = .int .i64 j ∧ Hid (ShStep w p D wr (ent3To Q own l j)))
      case atStart => exact ⟨0, by omega, rfl, HST0.out⟩
      case round =>
        obtain ⟨k, hk, rfl, HST⟩ := hrel
        have HWK : Hid ((ent3To Q own l k).was.length + 2 < 1099511627776) := by
          unfold Hid
          have := ent3To_was Q own l k
          have := HLEN.out
          have := HQW.out
          omega
        by_cases hlt : k < L
        · have hki : (k : Int) < (L : Int) := by omega
          have hk0 : (0 : Int) ≤ (k : Int) := Int.natCast_nonneg _
          have hk24 : (k : Int) < 24 := by omega
          obtain ⟨ea', ec', e, -, -, -, hcell⟩ := HE.out.mod HST.out.2 HED.out
          simp only [Value.slice.injEq] at e
          obtain ⟨rfl, -, rfl⟩ := e
          obtain ⟨g, o, rfl, d1, d2⟩ := hcell k (by rw [← HL.out]; exact hlt)
          obtain ⟨q, hq⟩ : ∃ q, q = k / 3 := ⟨_, rfl⟩
          obtain ⟨r, hr⟩ : ∃ r, r = k % 3 := ⟨_, rfl⟩
          have hqM : q < MM := by omega
          have hqi : (k : Int) / 3 = (q : Int) := by omega
          have hri : (k : Int) % 3 = (r : Int) := by omega
          obtain ⟨ba', bc', e, -, -, -, hcell2⟩ := HB.out.mod HST.out.2 HBD.out
          simp only [Value.slice.injEq] at e
          obtain ⟨rfl, -, rfl⟩ := e
          obtain ⟨gb, ob, rfl, d3⟩ := hcell2 q (by rw [← HM.out]; exact hqM)
          have hb256 : own.getD q 0 < 256 := by
            rw [List.getD_eq_getElem?_getD, List.getElem?_eq_getElem (by rw [← HM.out]; exact hqM)]
            exact HOB.out _ (List.getElem_mem _)
          obtain ⟨hgd, hi0, hi1⟩ := HOK.out k (by rw [← HL.out]; exact hlt)
          have hgood := Lib.hid hgd
          have hsu : ent3To Q own l (k + 1) = ent3At (ent3To Q own l k) own k (l.getD k default) := rfl
          have hea : ∀ T : Sh, ent3At T own k (l.getD k default) = (T.put (1080 + ((own.getD q 0 : Nat) : Int) * 8 + 1 + 2 * (r : Int)) (nword (l.getD k default).name : Nat)).put (1080 + ((own.getD q 0 : Nat) : Int) * 8 + 1 + 2 * (r : Int) + 1) (l.getD k default).ino := by
            intro T
            unfold ent3At
            rw [hq, hr]
          have HEA := Lib.hid hea
          have HSU := Lib.hid hsu
          have hr4 : r < 3 := by rw [hr]; exact Nat.mod_lt _ (by omega)
          have hnw := nword_lt (good_size hgd).2
          have HQ := Lib.hid hq
          have HR := Lib.hid hr
          have hq0 : (0 : Int) ≤ (q : Int) := Int.natCast_nonneg _
          have hq1 : (q : Int) < (MM : Int) := by omega
          have HHST : Hid (∀ wx, ShStep w p D wx (ent3To Q own l k) → ShStep w p D wx (ent3To Q own l k)) := fun _ h => h
          generalize ent3To Q own l k = T at *
          generalize hnm : (l.getD k default).name = nm at *
          generalize hin : (l.getD k default).ino = ino at *
          generalize own.getD q 0 = b at *
          have HNM := Lib.hid hnm
          have HIN := Lib.hid hin
          clear hcell hcell2 hgd hsu hea hq hr hnm hin HHST
          have hbi : (b : Int) < 256 := by omega
          have hb0 : (0 : Int) ≤ (b : Int) := Int.natCast_nonneg _
          have HBL : Hid (∀ wx, Calls Try.prog 105 #[.int .i64 (b : Int)] wx fun e w' => e = .returned (.int .i64 (1080 + (b : Int) * 8)) ∧ wx = w') := by
            intro wx
            have := block_any (b : Int) wx
            rw [if_neg (by omega)] at this
            exact this
          have d3a : (wr.alloc (.cells #[.string nm, .int .i64 ino] 27)).cell? ⟨gb, ob + q, none⟩ = some (.int .i64 (b : Nat)) := by rw [World.cell?_alloc_some _ _ _ (by rw [d3]; rfl)]; exact d3
          have hbx := boxed_new wr #[Value.string nm, .int .i64 ino] 27 (0, 0)
          have HBX := Lib.hid hbx
          have hnb : Hid (¬ grow D w wr wr.heap.size) := fun hd => by have := HST.out.1.lt _ hd; omega
          clear hbx
          go_wp2_with fail
          refine (HBL.out _).mono ?_
          rintro e w3 ⟨rfl, rfl⟩
          go_wp2_with fail
          refine (word_yes nm hgood.out _).mono ?_
          rintro e w4 ⟨rfl, hb4⟩
          have HM4 : Hid (Mod nob wr w4) := ((Mod.refl nob wr).alloc (.cells #[.string nm, .int .i64 ino] 27)).step (mod_of_below hb4) (fun _ h => h)
          have HS4 := Lib.hid (ShStep.at wr HST.out.1 HM4.out)
          have hx1 : w4.cell? ⟨wr.heap.size, 1, none⟩ = some (.int .i64 ino) := by
            have := hb4.cell (p := ⟨wr.heap.size, 1, none⟩) (by simp)
            rw [this]
            exact HBX.out 1
          have hsz4 : wr.heap.size < w4.heap.size := World.block_lt_of_cell? w4 _ hx1
          clear hb4
          go_wp2_with fail
          refine (sheet_put HS4.out.1 (by have := HWK.out; omega) _ (nword nm : Nat) (by omega) (by omega)).mono ?_
          rintro e w5 ⟨rfl, h5, m5⟩
          have HS5 := Lib.hid (HS4.out.step h5 m5)
          have hx5 : w5.cell? ⟨wr.heap.size, 1, none⟩ = some (.int .i64 ino) := HS5.out.2.cell hx1 hnb.out
          have HW5 : Hid ((T.put (1080 + (b : Int) * 8 + 1 + 2 * (r : Int)) (nword nm : Nat)).was.length < 1099511627776) := by
            unfold Hid
            have h1 := Sh.put_was_le T (1080 + (b : Int) * 8 + 1 + 2 * (r : Int)) (nword nm : Nat)
            have h2 := HWK.out
            omega
          clear h5 m5
          go_wp2_with fail
          refine (sheet_put HS5.out.1 HW5.out _ ino hi0 (by omega)).mono ?_
          rintro e w6 ⟨rfl, h6, m6⟩
          have HS6 := Lib.hid (HS5.out.step h6 m6)
          clear h6 m6
          go_wp2_with fail
          go_roundg (gk - 1)
          case measure => omega
          case rel => exact ⟨k + 1, by omega, by go_num, by rw [HSU.out, HEA.out]; exact HST.out.over HM4.out HS6.out⟩
        · have hge : ¬ (k : Int) < (L : Int) := by omega
          obtain rfl : k = L := by omega
          have HFI : Hid (bucket2S S l own = ent3To Q own l k) := by unfold Hid bucket2S; rw [HQQ.out, ← HM.out, ← HL.out]
          by_cases hm0 : MM = 0
          · have hown : own.getD 0 0 = 0 := by rw [List.getD_eq_getElem?_getD, List.getElem?_eq_none (by have := HM.out; omega)]; rfl
            have HOW := Lib.hid hown
            subst hm0
            clear hown
            go_wp2_with fail
            go_ret
            rw [HFI.out, HB00.out, HOW.out]
            exact ⟨rfl, HST.out⟩
          · have hm0i : ((MM : Int) == 0) = false := beq_false_of_ne (by omega)
            have hm0p : (0 : Int) < (MM : Int) := by omega
            obtain ⟨ba', bc', e, -, -, -, hcell2⟩ := HB.out.mod HST.out.2 HBD.out
            simp only [Value.slice.injEq] at e
            obtain ⟨rfl, -, rfl⟩ := e
            obtain ⟨gb, ob, rfl, d3⟩ := hcell2 0 (by have := HM.out; omega)
            rw [Nat.add_zero] at d3
            rw [← HB00.out] at d3
            clear hcell2 hm0
            go_wp2_with fail
            go_ret
            rw [HFI.out]
            exact ⟨rfl, HST.out⟩
end Go.Proofs.Ytlopdbhjdijlmaa

namespace Go.Proofs.Ytlopdbhjdijlmaa
open Go.ChangeShapes Go.WideShapes Go.ChangeAt Go.RowKit
set_option linter.unusedSimpArgs false
set_option linter.unusedVariables false

/-- A bucket's own blocks. -/
noncomputable def ownB (l : List En) (own : List Nat) (k : Nat) : List Nat := (own.drop (sumB l k)).take (((bktL l k).length + 2) / 3)
noncomputable def dir2To (S : Sh) (at_ : Int) (l : List En) (own : List Nat) : Nat → Sh
  | 0 => S
  | k + 1 => (bucket2S (dir2To S at_ l own k) (bktL l k) (ownB l own k)).put (at_ + 2 + (k : Int)) (((ownB l own k).getD 0 0 : Nat) : Int)
noncomputable def dir2S (S : Sh) (at_ : Int) (l : List En) (own : List Nat) : Sh := putN (dir2To S at_ l own 4) (at_ + 6) (fun _ => 0) 2

theorem ownB_len (l : List En) (own : List Nat) (k : Nat) : (ownB l own k).length ≤ own.length := by
  unfold ownB
  rw [List.length_take, List.length_drop]
  omega
theorem dir2To_was (S : Sh) (at_ : Int) (l : List En) (own : List Nat) (hl : l.length ≤ 24) (ho : own.length ≤ 40) (k : Nat) : (dir2To S at_ l own k).was.length ≤ S.was.length + 90 * k := by
  induction k with
  | zero => exact Nat.le_refl _
  | succ k ih =>
    have h1 := Sh.put_was_le (bucket2S (dir2To S at_ l own k) (bktL l k) (ownB l own k)) (at_ + 2 + (k : Int)) (((ownB l own k).getD 0 0 : Nat) : Int)
    have h2 := bucket2S_was (dir2To S at_ l own k) (bktL l k) (ownB l own k)
    have h3 := ownB_len l own k
    have h4 := bktL_len l k
    simp only [dir2To]
    omega

theorem take_getD2 (xs : List Nat) (q a : Nat) (h : a < q) : (xs.take q).getD a 0 = xs.getD a 0 := by
  rw [List.getD_eq_getElem?_getD, List.getElem?_take, if_pos h, List.getD_eq_getElem?_getD]
theorem HoldsN.take2 {w : World} {ao : Option Addr} {L c : Nat} {l : List Nat} (h : HoldsN w (.slice ao L c) l) (k : Nat) (hk : k ≤ l.length) : HoldsN w (.slice ao k c) (l.take k) := by
  obtain ⟨ao', c', e, h1, h2, h3, h4⟩ := h
  simp only [Value.slice.injEq] at e
  obtain ⟨rfl, rfl, rfl⟩ := e
  have hl : (l.take k).length = k := by rw [List.length_take]; omega
  refine ⟨ao, c, by rw [hl], by omega, h2, h3, fun j hj => ?_⟩
  rw [hl] at hj
  obtain ⟨g, o, e1, e2⟩ := h4 j (by omega)
  exact ⟨g, o, e1, by rw [take_getD2 _ _ _ hj]; exact e2⟩

theorem sumB_mono (l : List En) {a b : Nat} (h : a ≤ b) : sumB l a ≤ sumB l b := by
  induction b with
  | zero => obtain rfl : a = 0 := by omega
            exact Nat.le_refl _
  | succ b ih =>
    by_cases e : a = b + 1
    · subst e; exact Nat.le_refl _
    · have := ih (by omega)
      simp only [sumB]
      omega

theorem HoldsN.drop2 {w : World} {ao : Option Addr} {L c : Nat} {l : List Nat} (h : HoldsN w (.slice ao L c) l) (d : Nat) (hd : d ≤ l.length) : HoldsN w (.slice (ao.map fun x => x.add d) (L - d) (c - d)) (l.drop d) := by
  obtain ⟨ao', c', e, h1, h2, h3, h4⟩ := h
  simp only [Value.slice.injEq] at e
  obtain ⟨rfl, rfl, rfl⟩ := e
  refine ⟨_, c - d, by rw [List.length_drop], by rw [List.length_drop]; omega, by omega, fun e => ?_, fun j hj => ?_⟩
  · cases ao with
    | none => have := h3 rfl; omega
    | some a => cases e
  · rw [List.length_drop] at hj
    obtain ⟨g, o, e1, e2⟩ := h4 (d + j) (by omega)
    subst e1
    refine ⟨g, o + d, by rw [Option.map_some, Addr.add_lit], ?_⟩
    rw [show o + d + j = o + (d + j) by omega, e2]
    congr 3
    rw [List.getD_eq_getElem?_getD, List.getD_eq_getElem?_getD, List.getElem?_drop]

theorem ownBlock_drop {ao : Option Addr} {L c L' c' d g : Nat} (h : (Value.slice (ao.map fun x => x.add d) L' c').ownBlock = some g) : (Value.slice ao L c).ownBlock = some g := by
  cases ao with
  | none => cases h
  | some a =>
    have e : (a.add d).block = a.block := by unfold Addr.add; split <;> rfl
    have h2 : some (a.add d).block = some g := h
    rw [e] at h2
    exact h2

set_option maxRecDepth 20000 in
set_option maxHeartbeats 2000000 in
theorem dir2_any {w : World} {p : Nat} {D : Nat → Prop} {S : Sh} (h : SheetAt w p D S) (hlen : S.was.length + 1000 < 1099511627776) (at_ : Int) (ha : 0 ≤ at_ ∧ at_ ≤ 3000) {bv ev : Value} {own : List Nat} {l : List En} (hev : HoldsE w ev l) (hbv : HoldsN w bv own)
    (hed : l ≠ [] → ∀ g, ev.ownBlock = some g → ¬ D g) (hbd : own ≠ [] → ∀ g, bv.ownBlock = some g → ¬ D g) (hob : ∀ b ∈ own, b < 256) (hl : l.length ≤ 24) (hol : own.length ≤ 40) (hcov : own.length = sumB l 4)
    (hok : ∀ k, k < l.length → goodB (l.getD k default).name.data.toList = true ∧ 0 ≤ (l.getD k default).ino ∧ (l.getD k default).ino < 32) :
    Calls Try.prog 118 #[.pointer (some ⟨p, 0, none⟩), .int .i64 at_, ev, bv] w fun e w' => e = .returned (.tuple #[]) ∧ ShStep w p D w' (dir2S S at_ l own) := by
  have HSH := Lib.hid h
  have HB := Lib.hid hbv
  have HBD := Lib.hid hbd
  have HOB := Lib.hid hob
  have HLEN := Lib.hid hlen
  have HL24 := Lib.hid hl
  have HOL := Lib.hid hol
  have HCOV := Lib.hid hcov
  have HHA := Lib.hid (hashed_any hev hl (fun k hk => (hok k hk).1))
  have HOK : Hid (∀ b k, k < (bktL l b).length → goodB ((bktL l b).getD k default).name.data.toList = true ∧ 0 ≤ ((bktL l b).getD k default).ino ∧ ((bktL l b).getD k default).ino < 32) := by
    intro b k hk
    have hm : (bktL l b).getD k default ∈ l := by
      rw [List.getD_eq_getElem?_getD, List.getElem?_eq_getElem hk]
      exact (List.mem_filter.1 (List.getElem_mem hk)).1
    obtain ⟨j, hj, e⟩ := List.getElem_of_mem hm
    have := hok j hj
    rw [List.getD_eq_getElem?_getD, List.getElem?_eq_getElem hj] at this
    simp only [Option.getD_some] at this
    rw [e] at this
    exact this
  obtain ⟨ba, bc, rfl, b1, b2, -, -⟩ := hbv
  unfold maxLen at b2
  obtain ⟨a0, a1⟩ := ha
  have HDLT : Hid (∀ b, D b → b < w.heap.size) := h.lt
  clear h hev hed hbd hob hl hcov hok hlen
  go_enter Try.func118, Try.ntmps118
  go_wp2_with (go_at_call 114; refine HHA.out.mono ?_; rintro e w1 ⟨vs, rfl, hvs, hfr, hb1⟩)
  have HM1 : Hid (Mod nob w w1) := mod_of_below hb1
  have HVS := Lib.hid hvs
  have HFR := Lib.hid hfr
  have HI4 := Lib.hid (idx4 vs)
  have HST0 : Hid (ShStep w1 p D w1 S) := ShStep.at w HSH.out HM1.out
  have HB0 : Hid (HoldsN w1 (.slice ba own.length bc) (own.drop (sumB l 0))) := HB.out.mod HM1.out (fun _ _ _ h => h)
  have HBD0 : Hid (own ≠ [] → ∀ g, (Value.slice ba own.length bc).ownBlock = some g → g < w1.heap.size) := fun h0 g hg => by
    have h1 := HB.out.lt h0 g hg
    have h2 := HM1.out.size
    omega
  clear hvs hfr hb1 HHA
  go_loopg [3, 8, 9, 10, 14] 4 (fun gk ov _ _ _ iv wr => ∃ k : Nat, k + gk = 4 ∧ iv = .int .i64 k ∧ Hid (HoldsN wr ov (own.drop (sumB l k))) ∧ Hid (own.drop (sumB l k) ≠ [] → ∀ g, ov.ownBlock = some g → g < w1.heap.size ∧ ¬ D g) ∧ Hid (ShStep w1 p D wr (dir2To S at_ l own k)))
  case atStart => exact ⟨0, by omega, rfl, HB0.out, (fun h0 g hg => ⟨HBD0.out h0 g hg, HBD.out h0 g hg⟩), HST0.out⟩
  case round =>
    obtain ⟨k, hk, rfl, HO, HOD, HST⟩ := hrel
    by_cases hlt : k < 4
    · have hki : (k : Int) < 4 := by omega
      have hk0 : (0 : Int) ≤ (k : Int) := Int.natCast_nonneg _
      have hidx := HI4.out k hlt
      have hev0 := HVS.out k hlt
      have hev1 := hev0.mod HST.out.2 (fun h0 g hg hd => by have h1 := HFR.out k hlt g hg; have h2 := HDLT.out g hd; omega)
      have hedd : bktL l k ≠ [] → ∀ g, (vs k).ownBlock = some g → ¬ grow D w1 wr g := fun h0 g hg hd => by
        have h1 := hev0.lt h0 g hg
        have h2 := HFR.out k hlt g hg
        rcases hd with hd | hd
        · have := HDLT.out g hd; omega
        · omega
      have HEV := Lib.hid hev1
      have HEDD := Lib.hid hedd
      obtain ⟨va, vc, hv, -⟩ := hev0
      obtain ⟨m, hm⟩ : ∃ m, m = (bktL l k).length := ⟨_, rfl⟩
      have hm24 : m ≤ 24 := by rw [hm]; exact Nat.le_trans (bktL_len l k) HL24.out
      obtain ⟨d, hd⟩ : ∃ d, d = (m + 2) / 3 := ⟨_, rfl⟩
      rw [hv, ← hm] at hidx HEV HEDD
      have HBK := Lib.hid (fun wx => blocks2_any m (by omega) wx)
      rw [← hd] at HBK
      have hdl : d ≤ (own.drop (sumB l k)).length := by
        rw [List.length_drop, HCOV.out]
        have hs1 : sumB l (k + 1) = sumB l k + d := by rw [hd, hm]; rfl
        have hs2 := sumB_mono l (show k + 1 ≤ 4 by omega)
        omega
      obtain ⟨oa, oc, rfl, o1, o2, -, -⟩ := HO.out
      obtain ⟨N, hN⟩ : ∃ N, N = (own.drop (sumB l k)).length := ⟨_, rfl⟩
      rw [← hN] at hdl o1 HO HOD
      rw [← hN]
      unfold maxLen at o2
      have hN40 : N ≤ 40 := by rw [hN, List.length_drop]; have := HOL.out; omega
      have HNN := Lib.hid hN
      have HMM := Lib.hid hm
      have HDD := Lib.hid hd
      have hd10 : (d : Int) ≤ 10 := by omega
      have hdN : (d : Int) ≤ (N : Int) := by omega
      clear hev1 hedd hv hm hd hN
      go_upto_region 4 with (go_at_call 115; with_reducible refine (HBK.out _).mono ?_; rintro e w2 ⟨rfl, rfl⟩)
      have hown : (own.drop (sumB l k)).take d = ownB l own k := by unfold ownB; rw [HDD.out, HMM.out]
      have hol : (ownB l own k).length = d := by rw [← hown, List.length_take, ← HNN.out]; omega
      have hob : ∀ b ∈ ownB l own k, b < 256 := fun b hb => HOB.out b (List.mem_of_mem_drop (List.mem_of_mem_take (by rw [← hown] at hb; exact hb)))
      have hvo := HO.out.take2 d (by rw [← HNN.out]; exact hdl)
      rw [hown] at hvo
      have hbd : ownB l own k ≠ [] → ∀ g, (Value.slice oa d oc).ownBlock = some g → ¬ grow D w1 wr g := fun h0 g hg hdg => by
        have h1 := HOD.out (fun e => h0 (by unfold ownB; rw [e]; simp)) g (by cases oa with | none => cases hg | some a => exact hg)
        rcases hdg with hdg | hdg
        · exact h1.2 hdg
        · omega
      have hws := dir2To_was S at_ l own HL24.out HOL.out k
      have hws2 := bucket2S_was (dir2To S at_ l own k) (bktL l k) (ownB l own k)
      have hfirst := getD_lt hob 0
      have HBU := Lib.hid (bucket2_any HST.out.1 (by have := HLEN.out; omega) HEV.out hvo (by rw [← HMM.out] at *; exact HEDD.out) hbd hob (by rw [← HMM.out]; exact hm24) (by omega) (by rw [hol, ← HMM.out]; have := HDD.out; omega) (HOK.out k))
      have HWK : Hid ((bucket2S (dir2To S at_ l own k) (bktL l k) (ownB l own k)).was.length < 1099511627776) := by
        unfold Hid
        have := HLEN.out
        have := HMM.out
        omega
      have HSUC : Hid (dir2To S at_ l own (k + 1) = (bucket2S (dir2To S at_ l own k) (bktL l k) (ownB l own k)).put (at_ + 2 + (k : Int)) (((ownB l own k).getD 0 0 : Nat) : Int)) := rfl
      obtain ⟨f0, hf0⟩ : ∃ f0, f0 = (ownB l own k).getD 0 0 := ⟨_, rfl⟩
      rw [← hf0] at HSUC hfirst HBU
      have hf0i : (f0 : Int) < 256 := by omega
      have HDS : Hid (own.drop (sumB l (k + 1)) = (own.drop (sumB l k)).drop d) := by
        unfold Hid
        rw [List.drop_drop]
        have : sumB l (k + 1) = sumB l k + d := by rw [HDD.out, HMM.out]; rfl
        rw [this]
      clear hown hol hob hvo hbd hws hws2 hf0
      go_wp2_with fail
      refine HBU.out.mono ?_
      rintro e w3 ⟨rfl, hk3⟩
      have HS3 := Lib.hid (HST.out.step' hk3)
      have HG3 : Hid (Mod (grow D w1 wr) wr w3) := hk3.2
      clear hk3
      go_wp2_with fail
      refine (sheet_put HS3.out.1 HWK.out _ (f0 : Int) (by omega) (by omega)).mono ?_
      rintro e w4 ⟨rfl, h4, m4⟩
      have HS4 := Lib.hid (HS3.out.step h4 m4)
      have M4 := Lib.hid m4
      clear h4 m4
      have HON : Hid (HoldsN w4 (.slice (oa.map fun x => x.add d) (N - d) (oc - d)) (own.drop (sumB l (k + 1)))) := by
        unfold Hid
        rw [HDS.out]
        refine ((HO.out.mod HG3.out (fun h0 g hg hdg => ?_)).mod (D := grow D w1 w3) M4.out (fun h0 g hg hdg => ?_)).drop2 d (by rw [← HNN.out]; exact hdl)
        · have h1 := HOD.out h0 g hg
          rcases hdg with hdg | hdg
          · exact h1.2 hdg
          · omega
        · have h1 := HOD.out h0 g hg
          rcases hdg with hdg | hdg
          · exact h1.2 hdg
          · omega
      have HOD2 : Hid (own.drop (sumB l (k + 1)) ≠ [] → ∀ g, (Value.slice (oa.map fun x => x.add d) (N - d) (oc - d)).ownBlock = some g → g < w1.heap.size ∧ ¬ D g) := fun h0 g hg => by
        refine HOD.out (fun e => h0 ?_) g (ownBlock_drop hg)
        rw [HDS.out, e]
        simp
      have HE1 : Hid (oc = d → HoldsN w4 (.slice oa 0 0) (own.drop (sumB l (k + 1)))) := fun e => by
        have hnil : own.drop (sumB l (k + 1)) = [] := by
          rw [HDS.out]
          exact List.drop_eq_nil_of_le (by rw [← HNN.out]; omega)
        rw [hnil]
        exact ⟨oa, 0, rfl, Nat.le_refl _, Nat.zero_le _, fun _ => rfl, fun j h => by simp at h⟩
      have HE2 : Hid (oc = d → own.drop (sumB l (k + 1)) ≠ [] → ∀ g, (Value.slice oa 0 0).ownBlock = some g → g < w1.heap.size ∧ ¬ D g) := fun e h0 => by
        refine absurd ?_ h0
        rw [HDS.out]
        exact List.drop_eq_nil_of_le (by rw [← HNN.out]; omega)
      have HFIN : Hid (ShStep w1 p D w4 (dir2To S at_ l own (k + 1))) := by unfold Hid; rw [HSUC.out]; exact HS4.out
      by_cases hod : oc = d
      · have HON1 := Lib.hid (HE1.out hod)
        have HON2 := Lib.hid (HE2.out hod)
        subst hod
        clear HE1 HE2 HON HOD2
        go_wp2_with fail
        go_roundg (gk - 1)
        case measure => omega
        case rel => exact ⟨k + 1, by omega, by go_num, HON1, HON2, HFIN⟩
      · clear HE1 HE2
        go_wp2_with fail
        go_roundg (gk - 1)
        case measure => omega
        case rel => exact ⟨k + 1, by omega, by go_num, HON, HOD2, HFIN⟩
    · have hge : ¬ (k : Int) < 4 := by omega
      obtain rfl : k = 4 := by omega
      obtain ⟨Q, hQ⟩ : ∃ Q, Q = dir2To S at_ l own 4 := ⟨_, rfl⟩
      have HQQ := Lib.hid hQ
      have hqw : Q.was.length ≤ S.was.length + 360 := by rw [hQ]; exact dir2To_was S at_ l own HL24.out HOL.out 4
      have HQW := Lib.hid hqw
      have HST1 : Hid (ShStep w1 p D wr Q) := by unfold Hid; rw [hQ]; exact HST.out
      clear hQ hqw HST
      go_wp2_with fail
      go_loopg [11] 2 (fun gk iv wr => ∃ j : Nat, j + gk = 2 ∧ iv = .int .i64 ((6 + j : Nat) : Int) ∧ Hid (ShStep w1 p D wr (putN Q (at_ + 6) (fun _ => 0) j)))
      case atStart => exact ⟨0, by omega, rfl, HST1.out⟩
      case round =>
        obtain ⟨j, hj, rfl, HST2⟩ := hrel
        obtain ⟨q, hq⟩ : ∃ q : Nat, q = 6 + j := ⟨_, rfl⟩
        rw [← hq]
        have HWJ : Hid ((putN Q (at_ + 6) (fun _ => 0) j).was.length < 1099511627776) := by
          unfold Hid
          have := putN_was Q (at_ + 6) (fun _ => 0) j
          have := HQW.out
          have := HLEN.out
          omega
        by_cases hlt2 : j < 2
        · have hqi : (q : Int) < 8 := by omega
          have hq0 : (0 : Int) ≤ (q : Int) := Int.natCast_nonneg _
          have hqe : at_ + (q : Int) = at_ + 6 + (j : Int) := by omega
          have HQE := Lib.hid hqe
          have hq2 : q + 1 = 6 + (j + 1) := by omega
          have HQ2 := Lib.hid hq2
          clear hqe hq hq2
          go_wp2_with fail
          refine (sheet_put HST2.out.1 HWJ.out _ 0 (by omega) (by omega)).mono ?_
          rintro e w4 ⟨rfl, h4, m4⟩
          have HS4 := Lib.hid (HST2.out.step h4 m4)
          clear h4 m4
          go_wp2_with fail
          go_roundg (gk - 1)
          case measure => omega
          case rel => exact ⟨j + 1, by omega, by rw [← HQ2.out]; go_num, by have h5 := HS4.out; rw [HQE.out] at h5; exact h5⟩
        · have hge2 : ¬ (q : Int) < 8 := by omega
          obtain rfl : j = 2 := by omega
          go_wp2_with fail
          go_end0
          refine ⟨rfl, ?_⟩
          have h6 := HST2.out
          rw [HQQ.out] at h6
          exact ShStep.from HSH.out HM1.out h6
end Go.Proofs.Ytlopdbhjdijlmaa

namespace Go.Proofs.Ytlopdbhjdijlmaa
open Go.ChangeShapes Go.WideShapes Go.ChangeAt Go.RowKit
set_option linter.unusedSimpArgs false
set_option linter.unusedVariables false

noncomputable def put2S (S : Sh) (at_ : Int) (n : Ino) (own : List Nat) : Sh :=
  if n.kind = 1 then file2S ((S.put at_ (tagW n)).put (at_ + 1) n.size) at_ (RunsM.runs n.bl) own else dir2S ((S.put at_ (tagW n)).put (at_ + 1) n.size) at_ n.ents own

theorem runs_range (l : List Int) : ∀ z ∈ RunsM.runs l, 0 ≤ z ∧ z < 18446744073709551616 := by
  intro z hz
  have := (RunsM.fit_upto l 13).each z hz
  omega
theorem runs_len (l : List Int) : (RunsM.runs l).length ≤ 13 := (RunsM.fit_upto l 13).len

theorem need2_le {n : Ino} (hr : RightP n) : need2 n ≤ 40 := by
  unfold need2
  split
  · split <;> omega
  · have h1 := sumB_le n.ents 4
    have h2 := hr.ents
    omega

set_option maxRecDepth 20000 in
set_option maxHeartbeats 2000000 in
theorem put2_any {w : World} {p : Nat} {D : Nat → Prop} {S : Sh} (h : SheetAt w p D S) (hlen : S.was.length + 1100 < 1099511627776) (at_ : Int) (ha : 0 ≤ at_ ∧ at_ ≤ 3000) {n : Ino} {ev bv : Value} {own : List Nat} (hn : n.Ok) (hev : HoldsE w ev n.ents) (hbv : HoldsN w bv own)
    (hed : n.ents ≠ [] → ∀ g, ev.ownBlock = some g → ¬ D g) (hbd : own ≠ [] → ∀ g, bv.ownBlock = some g → ¬ D g) (hob : ∀ b ∈ own, b < 256) (hr : RightP n) (hon : own.length = need2 n) :
    Calls Try.prog 94 #[.pointer (some ⟨p, 0, none⟩), .int .i64 at_, .agg (inoA n ev), bv] w fun e w' => e = .returned (.tuple #[]) ∧ ShStep w p D w' (put2S S at_ n own) := by
  have HSH := Lib.hid h
  have HNO := Lib.hid hn
  have HB := Lib.hid hbv
  have HE := Lib.hid hev
  have HED := Lib.hid hed
  have HBD := Lib.hid hbd
  have HOB := Lib.hid hob
  have HLEN := Lib.hid hlen
  have HR := Lib.hid hr
  have HON := Lib.hid hon
  have HM0 : Hid (Mod nob w (w.alloc (.cells (inoA n ev) 25))) := (Mod.refl nob w).alloc _
  have HA0 : Hid (InoB (w.alloc (.cells (inoA n ev) 25)) w.heap.size n ev) := InoB.new w hn.len ev
  have HST0 : Hid (ShStep (w.alloc (.cells (inoA n ev) 25)) p D (w.alloc (.cells (inoA n ev) 25)) S) := ShStep.at w h HM0.out
  have HRA := Lib.hid (HA0.out.at.range hn.len)
  have HSA : Hid ((Try.prog.info? 25).map (·.size) = some (inoL n ev).length) := by
    unfold Hid; rw [inoL_len hn.len]; exact Try.info18
  have HDX : Hid (¬ D w.heap.size) := fun hd => by have := h.lt _ hd; omega
  have HTAG : Hid (Calls Try.prog 116 #[.agg (inoL n ev).toArray] (w.alloc (.cells (inoA n ev) 25)) fun e w' => e = .returned (.int .u64 (tagW n)) ∧ Below (w.alloc (.cells (inoA n ev) 25)).heap.size (w.alloc (.cells (inoA n ev) 25)) w') := tag2_any hn.len (by obtain ⟨s1, s2, s3, s4⟩ := hr.small; exact ⟨s1, s2, s3⟩)
  have htr : 0 ≤ tagW n ∧ tagW n < 18446744073709551616 := by
    obtain ⟨s1, s2, s3, s4⟩ := hr.small
    unfold tagW
    omega
  obtain ⟨a0, a1⟩ := ha
  obtain ⟨ea, ec, rfl, -, -, -, -⟩ := hev
  clear h hn hbv hed hbd hob hr hon hlen
  go_enter Try.func94, Try.ntmps94
  go_wp2_with (with_reducible refine wpList_load_mid (op := ⟨some 10, _, _, _, _, _⟩) rfl 25 _ rfl w.heap.size 0 rfl (inoL n (.slice ea n.ents.length ec)) _ HRA.out Try.underlying25 rfl HSA.out ?_)
  generalize w.alloc (.cells (inoA n (.slice ea n.ents.length ec)) 25) = w0 at *
  obtain ⟨X, hX⟩ : ∃ X, X = w.heap.size := ⟨_, rfl⟩
  rw [← hX] at HA0 HDX ⊢
  clear hX
  refine HTAG.out.mono ?_
  rintro e w1 ⟨rfl, hb1⟩
  have HS1 := Lib.hid (HST0.out.still (mod_of_below hb1))
  obtain ⟨tg, htg⟩ : ∃ tg, tg = tagW n := ⟨_, rfl⟩
  rw [← htg] at htr ⊢
  have HTG := Lib.hid htg
  obtain ⟨t0, t1⟩ := htr
  clear hb1 HTAG htg HRA
  go_wp2_with fail
  refine (sheet_put HS1.out.1 (by have := HLEN.out; omega) _ tg t0 t1).mono ?_
  rintro e w2 ⟨rfl, h2, m2⟩
  have HS2 := Lib.hid (HS1.out.step h2 m2)
  have HX2 := Lib.hid (HA0.out.mod HS2.out.2 HDX.out)
  have c3 := HX2.out.at.c3
  have c1 := HX2.out.at.c1
  simp only [Nat.zero_add] at c3 c1
  obtain ⟨sz, hsz⟩ : ∃ sz, sz = n.size := ⟨_, rfl⟩
  obtain ⟨kd, hkd⟩ : ∃ kd, kd = n.kind := ⟨_, rfl⟩
  have hszr := HR.out.small.2.2.2
  rw [← hsz] at c3 hszr
  rw [← hkd] at c1
  have HSZ := Lib.hid hsz
  have HKD := Lib.hid hkd
  obtain ⟨z0, z1⟩ := hszr
  have hw2 := Sh.put_was_le S at_ tg
  have HW2 := Lib.hid hw2
  clear h2 m2 hsz hkd hw2 c1
  go_wp2_with fail
  refine (sheet_put HS2.out.1 (by have := HLEN.out; have := HW2.out; omega) _ sz z0 (by omega)).mono ?_
  rintro e w3 ⟨rfl, h3, m3⟩
  have HS3 := Lib.hid (HS2.out.step h3 m3)
  have HX3 := Lib.hid (HA0.out.mod HS3.out.2 HDX.out)
  have c1 := HX3.out.at.c1
  simp only [Nat.zero_add] at c1
  rw [← HKD.out] at c1
  have hw3 := Sh.put_was_le (S.put at_ tg) (at_ + 1) sz
  have HW3 : Hid (((S.put at_ tg).put (at_ + 1) sz).was.length ≤ S.was.length + 2) := by unfold Hid; have := HW2.out; omega
  obtain ⟨T, hT⟩ : ∃ T, T = (S.put at_ tg).put (at_ + 1) sz := ⟨_, rfl⟩
  rw [← hT] at HS3 HW3
  have HTT : Hid (T = (S.put at_ (tagW n)).put (at_ + 1) n.size) := by unfold Hid; rw [hT, HTG.out, HSZ.out]
  clear h3 m3 hw3 hT c3 HX2 HS2
  by_cases hk : kd = 1
  · have hps : put2S S at_ n own = file2S T at_ (RunsM.runs n.bl) own := by unfold put2S; rw [if_pos (by rw [← HKD.out]; exact hk), HTT.out]
    have HPS := Lib.hid hps
    have HRB := Lib.hid (HX3.out.at.blocks HNO.out.len)
    have HSB : Hid ((Try.prog.info? 22).map (·.size) = some (n.bl.map (Value.int .i64)).length) := by
      unfold Hid; rw [List.length_map, HNO.out.len]; exact Try.info13
    subst hk
    clear hps
    go_wp2_with (first
      | (with_reducible refine wpList_load_mid (op := ⟨some 26, _, _, _, _, _⟩) rfl 22 _ rfl X (0 + 4) rfl (n.bl.map (Value.int .i64)) _ HRB.out Try.underlying22 rfl HSB.out ?_)
      | (go_at_call 113; refine (fmt2_runs n.bl HNO.out.len _).mono ?_; rintro e w4 ⟨v, rfl, hown, hb4⟩))
    have hst4 : SheetAt w4 p (grow D w0 w3) T := HS3.out.1.mod (mod_of_below hb4) (fun _ _ h => h)
    have hv4 : HoldsN w4 bv own := ((HB.out.mod HM0.out (fun _ _ _ h => h)).mod HS3.out.2 HBD.out).mod (mod_of_below hb4) (fun _ _ _ h => h)
    have hu : HoldsU w4 v (RunsM.runs n.bl) := holdsU_of_own hown
    refine (file2_any hst4 (by have := HLEN.out; have := HW3.out; omega) at_ ⟨a0, a1⟩ hu (runs_len _) (runs_range _) (fun h0 g hg hd => ?_) hv4 (fun h0 g hg hd => ?_) HOB.out (by rw [HON.out]; have := need2_le HR.out; omega)).mono ?_
    · have h1 := own_ge hown g hg
      have h2 := HS3.out.1.lt g hd
      omega
    · have h1 := (HB.out.mod HM0.out (fun _ _ _ h => h)).lt h0 g hg
      rcases hd with hd | hd
      · exact HBD.out h0 g hg hd
      · omega
    · rintro e w5 ⟨rfl, hk5⟩
      have HK5 := Lib.hid (HS3.out.over (mod_of_below hb4) hk5)
      clear hk5 hst4 hv4 hu hown hb4
      go_wp2_with fail
      refine bodyPost_ret (v := .tuple #[]) (by simp [results, Try.results94, go_sem]) rfl ⟨rfl, ?_⟩
      rw [HPS.out]
      exact ShStep.from HSH.out HM0.out HK5.out
  · have hps : put2S S at_ n own = dir2S T at_ n.ents own := by unfold put2S; rw [if_neg (by rw [← HKD.out]; exact hk), HTT.out]
    have HPS := Lib.hid hps
    have hdir := (HR.out.isDir (by rw [← HKD.out]; exact hk)).2
    have hkb : ((kd : Int) == 1) = false := beq_false_of_ne hk
    have c17 := HX3.out.at.ev
    simp only [Nat.zero_add] at c17
    have hev3 : HoldsE w3 (.slice ea n.ents.length ec) n.ents := (HE.out.mod HM0.out (fun _ _ _ h => h)).mod HS3.out.2 HED.out
    have hv3 : HoldsN w3 bv own := (HB.out.mod HM0.out (fun _ _ _ h => h)).mod HS3.out.2 HBD.out
    have hnd : need2 n = sumB n.ents 4 := by unfold need2; rw [if_neg (by rw [← HKD.out]; exact hk)]
    have HDIR := Lib.hid (dir2_any HS3.out.1 (by have := HLEN.out; have := HW3.out; omega) at_ ⟨a0, a1⟩ hev3 hv3 (fun h0 g hg hd => by
      have h1 := (HE.out.mod HM0.out (fun _ _ _ h => h)).lt h0 g hg
      rcases hd with hd | hd
      · exact HED.out h0 g hg hd
      · omega) (fun h0 g hg hd => by
      have h1 := (HB.out.mod HM0.out (fun _ _ _ h => h)).lt h0 g hg
      rcases hd with hd | hd
      · exact HBD.out h0 g hg hd
      · omega) HOB.out hdir.2.1 (by rw [HON.out]; exact need2_le HR.out) (by rw [HON.out, hnd]) (fun k hk => ⟨(hdir.1 k hk).1, (hdir.1 k hk).2.2⟩))
    clear hps hdir hk hev3 hv3 hnd
    go_wp2_with fail
    refine HDIR.out.mono ?_
    rintro e w5 ⟨rfl, hk5⟩
    have HK5 := Lib.hid (HS3.out.step' hk5)
    clear hk5
    go_wp2_with fail
    go_end0
    refine ⟨rfl, ?_⟩
    rw [HPS.out]
    exact ShStep.from HSH.out HM0.out HK5.out
end Go.Proofs.Ytlopdbhjdijlmaa
