/-
  What fmt1.long, fmt1.numbers and fmt1.entries answer: contracts. No condition but the bounds that are typed.
  What fmt1.Lay does, as a plain function; the sheet's steps from world to world: general lemmas.
-/
import Derived.Test.YtlopdbhjdijlmaaQShStep
import Derived.Test.YtlopdbhjdijlmaaQModStep
import Derived.Lib.EndianMore

namespace Go.Proofs.Ytlopdbhjdijlmaa
open Go.ChangeShapes Go.WideShapes Go.ChangeAt Go.RowKit
set_option linter.unusedSimpArgs false
set_option linter.unusedVariables false

/-- Do the numbers need a list? -/
def LongP (l : List Int) : Prop := ∃ k, 5 ≤ k ∧ k < 13 ∧ l.getD k 0 ≠ 0
open Classical in
noncomputable def longB (l : List Int) : Bool := decide (LongP l)
open Classical in
theorem longB_iff (l : List Int) : longB l = true ↔ LongP l := by unfold longB; exact decide_eq_true_iff
theorem longB_false {l : List Int} (h : ¬ LongP l) : longB l = false := by
  cases hb : longB l with
  | false => rfl
  | true => exact absurd ((longB_iff l).1 hb) h

theorem arrCell (w : World) (l : List Int) (hl : l.length = 13) (t : TypeId) (k : Nat) (hk : k < 13) : (w.alloc (.cells (l.map (Value.int .i64)).toArray t)).cell? ⟨w.heap.size, k, none⟩ = some (.int .i64 (l.getD k 0)) := by
  rw [boxed_new, List.getElem?_toArray, List.getElem?_map, List.getElem?_eq_getElem (by omega), List.getD_eq_getElem?_getD, List.getElem?_eq_getElem (by omega)]
  rfl

set_option maxRecDepth 20000 in
theorem long_any {w : World} (l : List Int) (hl : l.length = 13) :
    Calls Try.prog 88 #[.agg (l.map (Value.int .i64)).toArray] w fun e w' => e = .returned (.bool (longB l)) ∧ Below w.heap.size w w' := by
  have HC := Lib.hid (arrCell w l hl 22)
  have HBEL : Hid (Below w.heap.size w (w.alloc (.cells (l.map (Value.int .i64)).toArray 22))) := (Below.refl _ _).alloc (Nat.le_refl _) _
  have hll : (l.map (Value.int .i64)).toArray.size = 13 := by simp [hl]
  have HLL := Lib.hid hll
  clear hll hl
  go_enter Try.func88, Try.ntmps88
  go_wp2_with fail
  generalize w.alloc (.cells (l.map (Value.int .i64)).toArray 22) = w0 at *
  go_loopg [4, 7] 8 (fun gk _ iv wr => ∃ k : Nat, k + gk = 8 ∧ iv = .int .i64 k ∧ w0 = wr ∧ Hid (∀ j, 5 ≤ j → j < 5 + k → l.getD j 0 = 0))
  case atStart => exact ⟨0, by omega, rfl, rfl, fun j h1 h2 => by omega⟩
  case round =>
    obtain ⟨k, hk, rfl, rfl, HP⟩ := hrel
    by_cases hlt : k < 8
    · have hli : (k : Int) < 8 := by omega
      have hk0 : (0 : Int) ≤ (k : Int) := Int.natCast_nonneg _
      have d1 := HC.out (5 + k) (by omega)
      obtain ⟨x, hx⟩ : ∃ x, x = l.getD (5 + k) 0 := ⟨_, rfl⟩
      rw [← hx] at d1
      have HX := Lib.hid hx
      clear hx
      by_cases h0 : x = 0
      · subst h0
        go_wp2_with fail
        go_roundg (gk - 1)
        case measure => omega
        case rel =>
          refine ⟨k + 1, by omega, by go_num, rfl, fun j h1 h2 => ?_⟩
          by_cases e : j = 5 + k
          · rw [e]; exact HX.out.symm
          · exact HP.out j h1 (by omega)
      · have H0 := Lib.hid h0
        have h0b : (x != 0) = true := by simpa using h0
        have HK := Lib.hid hlt
        clear h0
        go_wp2_with fail
        go_ret
        exact ⟨ret_b ((longB_iff l).2 ⟨5 + k, by omega, by have := HK.out; omega, by rw [← HX.out]; exact H0.out⟩).symm, HBEL.out⟩
    · have hge : ¬ (k : Int) < 8 := by omega
      obtain rfl : k = 8 := by omega
      go_wp2_with fail
      go_ret
      exact ⟨ret_b (longB_false (fun ⟨j, h1, h2, h3⟩ => h3 (HP.out j h1 (by omega)))).symm, HBEL.out⟩

/-- The numbers, put one behind the other. -/
def numberAt (S : Sh) (at_ : Int) (list : Int) (k : Nat) (x : Int) : Sh := if k < 5 then S.put (at_ + 2 + (k : Int)) x else if list ≠ 0 then S.put (1080 + list * 8 + (k : Int) - 5) x else S
def numbersTo (S : Sh) (at_ : Int) (l : List Int) (list : Int) : Nat → Sh
  | 0 => S
  | k + 1 => numberAt (numbersTo S at_ l list k) at_ list k (l.getD k 0)
def numbersS (S : Sh) (at_ : Int) (l : List Int) (list : Int) : Sh := (numbersTo S at_ l list 13).put (at_ + 7) list

theorem numberAt_was (S : Sh) (at_ list : Int) (k : Nat) (x : Int) : (numberAt S at_ list k x).was.length ≤ S.was.length + 1 := by
  unfold numberAt
  split
  · exact Sh.put_was_le _ _ _
  · split
    · exact Sh.put_was_le _ _ _
    · omega

theorem numbersTo_was (S : Sh) (at_ : Int) (l : List Int) (list : Int) (k : Nat) : (numbersTo S at_ l list k).was.length ≤ S.was.length + k := by
  induction k with
  | zero => exact Nat.le_refl _
  | succ k ih => have := numberAt_was (numbersTo S at_ l list k) at_ list k (l.getD k 0); simp only [numbersTo]; omega

set_option maxRecDepth 20000 in
set_option maxHeartbeats 1000000 in
theorem numbers_any {w : World} {p : Nat} {D : Nat → Prop} {S : Sh} (h : SheetAt w p D S) (hlen : S.was.length + 30 < 1099511627776) (at_ : Int) (ha : 0 ≤ at_ ∧ at_ ≤ 3000) (l : List Int) (hl : l.length = 13) (hb : ∀ k, k < 13 → 0 ≤ l.getD k 0 ∧ l.getD k 0 < 256) (list : Int) (hli : 0 ≤ list ∧ list < 256) :
    Calls Try.prog 91 #[.pointer (some ⟨p, 0, none⟩), .int .i64 at_, .agg (l.map (Value.int .i64)).toArray, .int .i64 list] w fun e w' => e = .returned (.tuple #[]) ∧ ShStep w p D w' (numbersS S at_ l list) := by
  have HS0 : Hid (ShStep w p D (w.alloc (.cells (l.map (Value.int .i64)).toArray 22)) S) := (ShStep.start h).still ((Mod.refl nob w).alloc _)
  have hsz : (l.map (Value.int .i64)).toArray.size = 13 := by simp [hl]
  have HSZ := Lib.hid hsz
  have H13 := Lib.hid (idx13i l hl)
  have HB := Lib.hid hb
  obtain ⟨a0, a1⟩ := ha
  obtain ⟨l0, l1⟩ := hli
  have HLEN := Lib.hid hlen
  clear h hsz hl hb hlen
  go_enter Try.func91, Try.ntmps91
  go_wp2_with (with_reducible refine wpList_load_row (o := ⟨some 10, _, _, _, _, _⟩) rfl 22 _ rfl w.heap.size rfl 22 (l.map (Value.int .i64)).toArray (0, 0) _ ?_ Try.underlying22 rfl ?_ ?_)
  · exact heap_alloc_new w _
  · rw [HSZ.out]; kernel_rfl
  generalize w.alloc (.cells (l.map (Value.int .i64)).toArray 22) = w0 at *
  go_loopg [8, 9, 11] 13 (fun gk _ _ iv wr => ∃ k : Nat, k + gk = 13 ∧ iv = .int .i64 k ∧ Hid (ShStep w p D wr (numbersTo S at_ l list k)))
  case atStart => exact ⟨0, by omega, rfl, HS0.out⟩
  case round =>
    obtain ⟨k, hk, rfl, HST⟩ := hrel
    have HWL := Lib.hid (numbersTo_was S at_ l list k)
    have HWK : Hid ((numbersTo S at_ l list k).was.length < 1099511627776) := by
      unfold Hid
      have := HWL.out
      have := HLEN.out
      omega
    by_cases hlt : k < 13
    · have hki : (k : Int) < 13 := by omega
      have hk0 : (0 : Int) ≤ (k : Int) := Int.natCast_nonneg _
      have hix := fun wx => H13.out k hlt wx
      have hxb := HB.out k hlt
      have hsu : numbersTo S at_ l list (k + 1) = numberAt (numbersTo S at_ l list k) at_ list k (l.getD k 0) := rfl
      generalize l.getD k 0 = x at *
      generalize numbersTo S at_ l list k = T at *
      have HSU := Lib.hid hsu
      obtain ⟨x0, x1⟩ := hxb
      clear hsu
      by_cases h5 : k < 5
      · have h5i : (k : Int) < 5 := by omega
        have HN : Hid (numberAt T at_ list k x = T.put (at_ + 2 + (k : Int)) x) := by unfold Hid numberAt; rw [if_pos h5]
        go_wp2_with fail
        refine (sheet_put HST.out.1 HWK.out _ x x0 (by omega)).mono ?_
        rintro e w5 ⟨rfl, h5', m5⟩
        go_wp2_with fail
        go_roundg (gk - 1)
        case measure => omega
        case rel => exact ⟨k + 1, by omega, by go_num, by rw [HSU.out, HN.out]; exact HST.out.step h5' m5⟩
      · have h5i : ¬ (k : Int) < 5 := by omega
        by_cases hl0 : list = 0
        · have HN : Hid (numberAt T at_ list k x = T) := by unfold Hid numberAt; rw [if_neg h5, if_neg (fun h => h hl0)]
          have hl0b : (list != 0) = false := by simpa using hl0
          clear hl0
          go_wp2_with fail
          go_roundg (gk - 1)
          case measure => omega
          case rel => exact ⟨k + 1, by omega, by go_num, by rw [HSU.out, HN.out]; exact HST.out⟩
        · have HN : Hid (numberAt T at_ list k x = T.put (1080 + list * 8 + (k : Int) - 5) x) := by unfold Hid numberAt; rw [if_neg h5, if_pos hl0]
          have hl0b : (list != 0) = true := by simpa using hl0
          have HBL : Hid (∀ wx, Calls Try.prog 105 #[.int .i64 list] wx fun e w' => e = .returned (.int .i64 (1080 + list * 8)) ∧ wx = w') := by
            intro wx
            have := block_any list wx
            rw [if_neg (by omega)] at this
            exact this
          clear hl0
          go_wp2_with fail
          refine (HBL.out _).mono ?_
          rintro e w4 ⟨rfl, rfl⟩
          go_wp2_with fail
          refine (sheet_put HST.out.1 HWK.out _ x x0 (by omega)).mono ?_
          rintro e w5 ⟨rfl, h5', m5⟩
          go_wp2_with fail
          go_roundg (gk - 1)
          case measure => omega
          case rel => exact ⟨k + 1, by omega, by go_num, by rw [HSU.out, HN.out]; exact HST.out.step h5' m5⟩
    · have hge : ¬ (k : Int) < 13 := by omega
      obtain rfl : k = 13 := by omega
      have HFI : Hid (numbersS S at_ l list = (numbersTo S at_ l list 13).put (at_ + 7) list) := rfl
      go_wp2_with fail
      refine (sheet_put HST.out.1 HWK.out (at_ + 7) list l0 (by omega)).mono ?_
      rintro e w5 ⟨rfl, h5', m5⟩
      go_wp2_with fail
      go_end0
      exact ⟨rfl, HST.out.step h5' m5⟩

/-- The entries, put one behind the other. -/
def entryAt (S : Sh) (own : List Nat) (k : Nat) (x : En) : Sh := (S.put (1080 + ((own.getD (k / 4) 0 : Nat) : Int) * 8 + 2 * ((k % 4 : Nat) : Int)) (nword x.name : Nat)).put (1080 + ((own.getD (k / 4) 0 : Nat) : Int) * 8 + 2 * ((k % 4 : Nat) : Int) + 1) x.ino
def entriesTo (S : Sh) (own : List Nat) (l : List En) : Nat → Sh
  | 0 => S
  | k + 1 => entryAt (entriesTo S own l k) own k (l.getD k default)
def entriesS (S : Sh) (own : List Nat) (l : List En) : Sh := entriesTo S own l l.length

theorem entryAt_was (S : Sh) (own : List Nat) (k : Nat) (x : En) : (entryAt S own k x).was.length ≤ S.was.length + 2 := by
  unfold entryAt
  have h1 := Sh.put_was_le S (1080 + ((own.getD (k / 4) 0 : Nat) : Int) * 8 + 2 * ((k % 4 : Nat) : Int)) (nword x.name : Nat)
  have h2 := Sh.put_was_le (S.put (1080 + ((own.getD (k / 4) 0 : Nat) : Int) * 8 + 2 * ((k % 4 : Nat) : Int)) (nword x.name : Nat)) (1080 + ((own.getD (k / 4) 0 : Nat) : Int) * 8 + 2 * ((k % 4 : Nat) : Int) + 1) x.ino
  omega

theorem entriesTo_was (S : Sh) (own : List Nat) (l : List En) (k : Nat) : (entriesTo S own l k).was.length ≤ S.was.length + 2 * k := by
  induction k with
  | zero => exact Nat.le_refl _
  | succ k ih => have := entryAt_was (entriesTo S own l k) own k (l.getD k default); simp only [entriesTo]; omega

set_option maxRecDepth 20000 in
set_option maxHeartbeats 1000000 in
theorem entries_any {w : World} {p : Nat} {D : Nat → Prop} {S : Sh} (h : SheetAt w p D S) (hlen : S.was.length + 100 < 1099511627776) {bv ev : Value} {own : List Nat} {l : List En} (hbv : HoldsN w bv own) (hev : HoldsE w ev l)
    (hbd : own ≠ [] → ∀ g, bv.ownBlock = some g → ¬ D g) (hed : l ≠ [] → ∀ g, ev.ownBlock = some g → ¬ D g) (hob : ∀ b ∈ own, b < 256) (hl : l.length ≤ 24) (hcov : l.length ≤ 4 * own.length)
    (hok : ∀ k, k < l.length → goodB (l.getD k default).name.data.toList = true ∧ 0 ≤ (l.getD k default).ino ∧ (l.getD k default).ino < 32) :
    Calls Try.prog 92 #[.pointer (some ⟨p, 0, none⟩), bv, ev] w fun e w' => e = .returned (.tuple #[]) ∧ ShStep w p D w' (entriesS S own l) := by
  have HS0 := Lib.hid (ShStep.start h)
  have HB := Lib.hid hbv
  have HE := Lib.hid hev
  have HBD := Lib.hid hbd
  have HED := Lib.hid hed
  have HOB := Lib.hid hob
  have HOK := Lib.hid hok
  have HLEN := Lib.hid hlen
  obtain ⟨ba, bc, rfl, b1, b2, -, -⟩ := hbv
  obtain ⟨ea, ec, rfl, e1, e2, -, -⟩ := hev
  obtain ⟨L, hL⟩ : ∃ L, L = l.length := ⟨_, rfl⟩
  obtain ⟨M, hM⟩ : ∃ M, M = own.length := ⟨_, rfl⟩
  rw [← hL] at e1 HE hl hcov HED ⊢
  rw [← hM] at b1 HB hcov HBD ⊢
  have HL := Lib.hid hL
  have HM := Lib.hid hM
  unfold maxLen at b2 e2
  clear h hbd hed hob hok hlen hL hM
  go_enter Try.func92, Try.ntmps92
  go_wp2_with fail
  go_loopg [6, 7, 8, 9, 10, 13] L (fun gk _ _ _ _ _ iv wr => ∃ k : Nat, k + gk = L ∧ iv = .int .i64 k ∧ Hid (ShStep w p D wr (entriesTo S own l k)))
  case atStart => exact ⟨0, by omega, rfl, HS0.out⟩
  case round =>
    obtain ⟨k, hk, rfl, HST⟩ := hrel
    have HWK : Hid ((entriesTo S own l k).was.length + 2 < 1099511627776) := by
      unfold Hid
      have := entriesTo_was S own l k
      have := HLEN.out
      omega
    by_cases hlt : k < L
    · have hki : (k : Int) < (L : Int) := by omega
      have hk0 : (0 : Int) ≤ (k : Int) := Int.natCast_nonneg _
      have hk24 : (k : Int) < 24 := by omega
      obtain ⟨ea', ec', e, -, -, -, hcell⟩ := HE.out.mod HST.out.2 HED.out
      simp only [Value.slice.injEq] at e
      obtain ⟨rfl, -, rfl⟩ := e
      obtain ⟨g, o, rfl, d1, d2⟩ := hcell k (by rw [← HL.out]; exact hlt)
      obtain ⟨q, hq⟩ : ∃ q, q = k / 4 := ⟨_, rfl⟩
      obtain ⟨r, hr⟩ : ∃ r, r = k % 4 := ⟨_, rfl⟩
      have hqM : q < M := by omega
      have hqi : (k : Int) / 4 = (q : Int) := by omega
      have hri : (k : Int) % 4 = (r : Int) := by omega
      obtain ⟨ba', bc', e, -, -, -, hcell2⟩ := HB.out.mod HST.out.2 HBD.out
      simp only [Value.slice.injEq] at e
      obtain ⟨rfl, -, rfl⟩ := e
      obtain ⟨gb, ob, rfl, d3⟩ := hcell2 q (by rw [← HM.out]; exact hqM)
      have hb256 : own.getD q 0 < 256 := by
        rw [List.getD_eq_getElem?_getD, List.getElem?_eq_getElem (by rw [← HM.out]; exact hqM)]
        exact HOB.out _ (List.getElem_mem _)
      obtain ⟨hgd, hi0, hi1⟩ := HOK.out k (by rw [← HL.out]; exact hlt)
      have hgood := Lib.hid hgd
      have hsu : entriesTo S own l (k + 1) = entryAt (entriesTo S own l k) own k (l.getD k default) := rfl
      have hea : ∀ T : Sh, entryAt T own k (l.getD k default) = (T.put (1080 + ((own.getD q 0 : Nat) : Int) * 8 + 2 * (r : Int)) (nword (l.getD k default).name : Nat)).put (1080 + ((own.getD q 0 : Nat) : Int) * 8 + 2 * (r : Int) + 1) (l.getD k default).ino := by
        intro T
        unfold entryAt
        rw [hq, hr]
      have HEA := Lib.hid hea
      have HSU := Lib.hid hsu
      have hr4 : r < 4 := by rw [hr]; exact Nat.mod_lt _ (by omega)
      have hnw := nword_lt (good_size hgd).2
      have HQ := Lib.hid hq
      have HR := Lib.hid hr
      have hq0 : (0 : Int) ≤ (q : Int) := Int.natCast_nonneg _
      have hq1 : (q : Int) < (M : Int) := by omega
      have HHST : Hid (∀ wx, ShStep w p D wx (entriesTo S own l k) → ShStep w p D wx (entriesTo S own l k)) := fun _ h => h
      generalize entriesTo S own l k = T at *
      generalize hnm : (l.getD k default).name = nm at *
      generalize hin : (l.getD k default).ino = ino at *
      generalize own.getD q 0 = b at *
      have HNM := Lib.hid hnm
      have HIN := Lib.hid hin
      clear hcell hcell2 hgd hsu hea hq hr hnm hin HHST
      have hbi : (b : Int) < 256 := by omega
      have hb0 : (0 : Int) ≤ (b : Int) := Int.natCast_nonneg _
      have HBL : Hid (∀ wx, Calls Try.prog 105 #[.int .i64 (b : Int)] wx fun e w' => e = .returned (.int .i64 (1080 + (b : Int) * 8)) ∧ wx = w') := by
        intro wx
        have := block_any (b : Int) wx
        rw [if_neg (by omega)] at this
        exact this
      have d3a : (wr.alloc (.cells #[.string nm, .int .i64 ino] 27)).cell? ⟨gb, ob + q, none⟩ = some (.int .i64 (b : Nat)) := by rw [World.cell?_alloc_some _ _ _ (by rw [d3]; rfl)]; exact d3
      have hbx := boxed_new wr #[Value.string nm, .int .i64 ino] 27 (0, 0)
      have HBX := Lib.hid hbx
      have hnb : Hid (¬ grow D w wr wr.heap.size) := fun hd => by have := HST.out.1.lt _ hd; omega
      clear hbx
      go_wp2_with fail
      refine (HBL.out _).mono ?_
      rintro e w3 ⟨rfl, rfl⟩
      go_wp2_with fail
      refine (word_yes nm hgood.out _).mono ?_
      rintro e w4 ⟨rfl, hb4⟩
      have HM4 : Hid (Mod nob wr w4) := ((Mod.refl nob wr).alloc (.cells #[.string nm, .int .i64 ino] 27)).step (mod_of_below hb4) (fun _ h => h)
      have HS4 := Lib.hid (ShStep.at wr HST.out.1 HM4.out)
      have hx1 : w4.cell? ⟨wr.heap.size, 1, none⟩ = some (.int .i64 ino) := by
        have := hb4.cell (p := ⟨wr.heap.size, 1, none⟩) (by simp)
        rw [this]
        exact HBX.out 1
      have hsz4 : wr.heap.size < w4.heap.size := World.block_lt_of_cell? w4 _ hx1
      clear hb4
      go_wp2_with fail
      refine (sheet_put HS4.out.1 (by have := HWK.out; omega) _ (nword nm : Nat) (by omega) (by omega)).mono ?_
      rintro e w5 ⟨rfl, h5, m5⟩
      have HS5 := Lib.hid (HS4.out.step h5 m5)
      have hx5 : w5.cell? ⟨wr.heap.size, 1, none⟩ = some (.int .i64 ino) := HS5.out.2.cell hx1 hnb.out
      have HW5 : Hid ((T.put (1080 + (b : Int) * 8 + 2 * (r : Int)) (nword nm : Nat)).was.length < 1099511627776) := by
        unfold Hid
        have h1 := Sh.put_was_le T (1080 + (b : Int) * 8 + 2 * (r : Int)) (nword nm : Nat)
        have h2 := HWK.out
        omega
      clear h5 m5
      go_wp2_with fail
      refine (sheet_put HS5.out.1 HW5.out _ ino hi0 (by omega)).mono ?_
      rintro e w6 ⟨rfl, h6, m6⟩
      have HS6 := Lib.hid (HS5.out.step h6 m6)
      clear h6 m6
      go_wp2_with fail
      go_roundg (gk - 1)
      case measure => omega
      case rel => exact ⟨k + 1, by omega, by go_num, by rw [HSU.out, HEA.out]; exact HST.out.over HM4.out HS6.out⟩
    · have hge : ¬ (k : Int) < (L : Int) := by omega
      obtain rfl : k = L := by omega
      go_wp2_with fail
      go_end0
      exact ⟨rfl, by unfold entriesS; rw [← HL.out]; exact HST.out⟩
end Go.Proofs.Ytlopdbhjdijlmaa

namespace Go.Proofs.Ytlopdbhjdijlmaa
open Go.ChangeShapes Go.WideShapes Go.ChangeAt Go.RowKit
set_option linter.unusedSimpArgs false
set_option linter.unusedVariables false

theorem ShStep.mono {w w' : World} {p : Nat} {D' D : Nat → Prop} {S : Sh} (h : ShStep w p D' w' S) (hd : ∀ b, D' b → D b) (hl : ∀ b, D b → b < w.heap.size) : ShStep w p D w' S := by
  have hs := h.2.size
  refine ⟨h.1.mono (fun b hb => ?_) (fun b hb => ?_), h.2.mono (fun b _ hb => hd b hb)⟩
  · rcases hb with hb | hb
    · exact .inl (hd b hb)
    · exact .inr hb
  · rcases hb with hb | hb
    · have := hl b hb; omega
    · exact hb.2

theorem ShStep.from {w w2 w' : World} {p : Nat} {D : Nat → Prop} {S S' : Sh} (h : SheetAt w p D S) (hm : Mod nob w w2) (k : ShStep w2 p D w' S') : ShStep w p D w' S' :=
  (ShStep.start h).over hm (k.mono (fun b hb => .inl hb) (fun b hb => by have := h.lt b (grow_refl.1 hb); have := hm.size; omega))

theorem heap_setCells_all (b : Nat) (t : TypeId) : ∀ (vs pre post : List Value) (w : World), w.heap[b]? = some (.cells (pre ++ post).toArray t (0, 0)) → post.length = vs.length →
    (w.setCells b pre.length vs).heap[b]? = some (.cells (pre ++ vs).toArray t (0, 0))
  | [], pre, post, w, h, hl => by
    have : post = [] := List.eq_nil_of_length_eq_zero (by simpa using hl)
    subst this
    exact h
  | v :: vs, pre, post, w, h, hl => by
    cases post with
    | nil => simp at hl
    | cons x post =>
      have h1 := heap_setCell_same w b pre.length _ _ v h
      have e : ((pre ++ x :: post).toArray.setIfInBounds pre.length v) = ((pre ++ [v]) ++ post).toArray := by
        apply Array.toList_inj.1
        simp
      rw [e] at h1
      have := heap_setCells_all b t vs (pre ++ [v]) post _ h1 (by simpa using hl)
      simp only [List.length_append, List.length_cons, List.length_nil, Nat.zero_add, List.append_assoc, List.cons_append, List.nil_append] at this
      exact this

/-- Thirteen noughts, as the walk spells them. -/
abbrev z13 : Array Value := #[.int .i64 0, .int .i64 0, .int .i64 0, .int .i64 0, .int .i64 0, .int .i64 0, .int .i64 0, .int .i64 0, .int .i64 0, .int .i64 0, .int .i64 0, .int .i64 0, .int .i64 0]

theorem arr_there (w : World) (t : TypeId) : (w.alloc (.cells z13 t)).there w.heap.size 0 13 := by
  intro j hj
  rw [Nat.zero_add]
  refine ⟨?_, frozen_of_row _ _ _ _ _ (heap_alloc_new _ _)⟩
  rw [cell_of_row _ _ _ _ _ _ (heap_alloc_new _ _), Array.getElem?_eq_getElem (show j < z13.size from hj)]
  rfl

theorem arr_row (w : World) (t : TypeId) (l : List Value) (hl : l.length = 13) :
    ((w.alloc (.cells z13 t)).setCells w.heap.size 0 l).heap[w.heap.size]? = some (.cells l.toArray t (0, 0)) ∧ Below w.heap.size w ((w.alloc (.cells z13 t)).setCells w.heap.size 0 l) := by
  constructor
  · have := heap_setCells_all w.heap.size t l [] z13.toList (w.alloc (.cells z13 t)) (heap_alloc_new _ _) (by rw [hl]; rfl)
    exact this
  · exact ((Below.refl _ _).alloc (Nat.le_refl _) _).trans (Lib.below_setCells_w (Nat.le_refl _) _ _ _)

/-- An inode of noughts, as the walk spells it. -/
abbrev z18 : Array Value := #[.int .i64 0, .int .i64 0, .int .i64 0, .int .i64 0, .int .i64 0, .int .i64 0, .int .i64 0, .int .i64 0, .int .i64 0, .int .i64 0, .int .i64 0, .int .i64 0, .int .i64 0, .int .i64 0, .int .i64 0, .int .i64 0, .int .i64 0, .slice none 0 0]

theorem inoA_lit0 (f k l s : Int) (ev : Value) : inoA ⟨f, k, l, s, List.replicate 13 0, []⟩ ev = #[.int .i64 f, .int .i64 k, .int .i64 l, .int .i64 s, .int .i64 0, .int .i64 0, .int .i64 0, .int .i64 0, .int .i64 0, .int .i64 0, .int .i64 0, .int .i64 0, .int .i64 0, .int .i64 0, .int .i64 0, .int .i64 0, .int .i64 0, ev] := rfl

theorem inoB_lit0 {w : World} {B : Nat} {f k l s : Int} {ev : Value} (h : w.heap[B]? = some (.cells #[.int .i64 f, .int .i64 k, .int .i64 l, .int .i64 s, .int .i64 0, .int .i64 0, .int .i64 0, .int .i64 0, .int .i64 0, .int .i64 0, .int .i64 0, .int .i64 0, .int .i64 0, .int .i64 0, .int .i64 0, .int .i64 0, .int .i64 0, ev] 25 (0, 0))) :
    InoB w B ⟨f, k, l, s, List.replicate 13 0, []⟩ ev := ⟨by rw [inoA_lit0]; exact h, by simp⟩

theorem ino_there (w : World) (t : TypeId) : (w.alloc (.cells z18 t)).there w.heap.size 0 18 := by
  intro j hj
  rw [Nat.zero_add]
  refine ⟨?_, frozen_of_row _ _ _ _ _ (heap_alloc_new _ _)⟩
  rw [cell_of_row _ _ _ _ _ _ (heap_alloc_new _ _), Array.getElem?_eq_getElem (show j < z18.size from hj)]
  rfl

theorem ino_row (w : World) (t : TypeId) (l : List Value) (hl : l.length = 18) :
    ((w.alloc (.cells z18 t)).setCells w.heap.size 0 l).heap[w.heap.size]? = some (.cells l.toArray t (0, 0)) ∧ Below w.heap.size w ((w.alloc (.cells z18 t)).setCells w.heap.size 0 l) := by
  constructor
  · exact heap_setCells_all w.heap.size t l [] z18.toList (w.alloc (.cells z18 t)) (heap_alloc_new _ _) (by rw [hl]; rfl)
  · exact ((Below.refl _ _).alloc (Nat.le_refl _) _).trans (Lib.below_setCells_w (Nat.le_refl _) _ _ _)

/-- How many blocks a directory takes; whether it, or the file, takes a list besides. -/
def need1 (n : Ino) : Nat := (n.ents.length + 3) / 4
open Classical in
noncomputable def more1 (n : Ino) : Nat := if 5 < need1 n ∨ LongP n.bl then 1 else 0
def inoAt (i : Int) : Int := if i < 0 ∨ 32 ≤ i then -1 else 824 + i * 8
def listOf (xs : List Nat) (d m : Nat) : Int := if m = 1 then ((xs.getD d 0 : Nat) : Int) else 0
def blOf (n : Ino) (xs : List Nat) : List Int := (xs.take (need1 n)).map (fun (b : Nat) => (b : Int)) ++ n.bl.drop (need1 n)
noncomputable def lay1P (S : Sh) (at_ : Int) (n : Ino) (xs : List Nat) : Sh :=
  entriesS (numbersS ((S.put at_ (tagW n)).put (at_ + 1) n.size) at_ (blOf n xs) (listOf xs (need1 n) (more1 n))) xs n.ents
noncomputable def lay1T (S : Sh) (n : Ino) : Sh × List Nat := takeFrom 255 S 1 (need1 n + more1 n)
noncomputable def lay1S (S : Sh) (i : Int) (n : Ino) : Sh := lay1P (lay1T S n).1 (824 + i * 8) n (lay1T S n).2

theorem blOf_len (n : Ino) (hl : n.bl.length = 13) (xs : List Nat) (hx : need1 n ≤ xs.length) (h13 : need1 n ≤ 13) : (blOf n xs).length = 13 := by
  unfold blOf
  rw [List.length_append, List.length_map, List.length_take, List.length_drop]
  omega

theorem more1_le (n : Ino) : more1 n ≤ 1 := by
  unfold more1
  split <;> omega
end Go.Proofs.Ytlopdbhjdijlmaa
