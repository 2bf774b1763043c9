/-
  What fmt1.block and fmt1.read answer: contracts. No condition but the bounds that are typed.
  Inodes in blocks that are stored whole, or in part; what a Read answers. No function of the program; no condition.
-/
import Derived.Test.YtlopdbhjdijlmaaQLay1

namespace Go.Proofs.Ytlopdbhjdijlmaa
open Go.ChangeShapes Go.WideShapes Go.ChangeAt Go.RowKit
set_option linter.unusedSimpArgs false
set_option linter.unusedVariables false

def blockI (x : Int) : Int := if 256 ≤ x then -1 else x

theorem block1_any (x : Int) (h0 : 0 ≤ x) (h1 : x < 18446744073709551616) (w : World) :
    Calls Try.prog 119 #[.int .u64 x] w fun e w' => e = .returned (.int .i64 (blockI x)) ∧ w = w' := by
  unfold blockI
  by_cases h : 256 ≤ x
  · go_enter Try.func119, Try.ntmps119
    go_wp2
    go_ret
    simp [h]
  · have h' : x < 256 := by omega
    go_enter Try.func119, Try.ntmps119
    go_wp2
    go_ret
    simp [h]

def readL (S : Sh) (at_ : Int) : Int := blockI (S.get (at_ + 7))
def readB (S : Sh) (at_ : Int) (k : Nat) : Int := if k < 5 then blockI (S.get (at_ + 2 + (k : Int))) else if 0 < readL S at_ then blockI (S.get (1080 + readL S at_ * 8 + (k : Int) - 5)) else 0
def readTo (S : Sh) (at_ : Int) (m : Nat) : List Int := (List.range 13).map fun k => if k < m then readB S at_ k else 0
def readI (S : Sh) (at_ : Int) (m : Nat) : Ino := ⟨S.get at_ % 256, S.get at_ / 256 % 256, S.get at_ / 65536 % 65536, if 1048576 < S.get (at_ + 1) then 1048576 else S.get (at_ + 1), readTo S at_ m, []⟩
def readN (S : Sh) (at_ : Int) : Ino := readI S at_ 13

theorem readTo_len (S : Sh) (at_ : Int) (m : Nat) : (readTo S at_ m).length = 13 := by simp [readTo]
theorem readTo_get (S : Sh) (at_ : Int) (m k : Nat) (hk : k < 13) : (readTo S at_ m).getD k 0 = if k < m then readB S at_ k else 0 := by
  unfold readTo
  rw [List.getD_eq_getElem?_getD, List.getElem?_map, List.getElem?_range hk]
  rfl
theorem readTo_succ (S : Sh) (at_ : Int) (m : Nat) (hm : m < 13) : (readTo S at_ m).set m (readB S at_ m) = readTo S at_ (m + 1) := by
  apply List.ext_getElem
  · simp [readTo]
  · intro j h1 h2
    simp only [readTo, List.getElem_set, List.getElem_map, List.getElem_range]
    by_cases e : m = j
    · subst e
      simp
    · rw [if_neg e]
      by_cases h : j < m
      · rw [if_pos h, if_pos (by omega)]
      · rw [if_neg h, if_neg (by omega)]
theorem readTo_zero (S : Sh) (at_ : Int) : readTo S at_ 0 = List.replicate 13 0 := by
  apply List.ext_getElem
  · simp [readTo]
  · intro j h1 h2
    rw [List.getElem_replicate]
    simp [readTo]

theorem readTo_same (S : Sh) (at_ : Int) (m : Nat) (h : readB S at_ m = 0) : readTo S at_ (m + 1) = readTo S at_ m := by
  unfold readTo
  apply List.map_congr_left
  intro k hk
  by_cases e : k = m
  · subst e
    rw [if_pos (by omega), if_neg (by omega), h]
  · by_cases h2 : k < m
    · rw [if_pos (by omega), if_pos h2]
    · rw [if_neg (by omega), if_neg h2]

theorem blockI_lt (x : Int) (h0 : 0 ≤ x) : -1 ≤ blockI x ∧ blockI x < 256 := by
  unfold blockI
  split <;> omega

/-- An inode of noughts. -/
def ino0 : Ino := ⟨0, 0, 0, 0, List.replicate 13 0, []⟩

theorem u64_mask8 (x : Int) (h0 : 0 ≤ x) (h1 : x < 18446744073709551616) : bits .and .u64 x 255 = x % 256 := by
  rw [u64_and x 255 h0 h1 (by omega) (by omega)]
  have : (255 : Int).toNat = 2 ^ 8 - 1 := rfl
  rw [this, Nat.and_two_pow_sub_one_eq_mod]
  omega
theorem u64_mask16 (x : Int) (h0 : 0 ≤ x) (h1 : x < 18446744073709551616) : bits .and .u64 x 65535 = x % 65536 := by
  rw [u64_and x 65535 h0 h1 (by omega) (by omega)]
  have : (65535 : Int).toNat = 2 ^ 16 - 1 := rfl
  rw [this, Nat.and_two_pow_sub_one_eq_mod]
  omega

set_option maxRecDepth 20000 in
set_option maxHeartbeats 8000000 in
theorem read_any {w : World} {p : Nat} {D : Nat → Prop} {S : Sh} (h : SheetAt w p D S) (at_ : Int) (ha : 0 ≤ at_ ∧ at_ ≤ 3000) :
    Calls Try.prog 95 #[.pointer (some ⟨p, 0, none⟩), .int .i64 at_] w fun e w' => e = .returned (.tuple #[.agg (inoA (readN S at_) (.slice none 0 0)), .int .i64 (readL S at_)]) ∧ Below w.heap.size w w' := by
  have HSH := Lib.hid h
  obtain ⟨a0, a1⟩ := ha
  have hx := h.ok.get at_
  have hy := h.ok.get (at_ + 1)
  have hz := h.ok.get (at_ + 7)
  have HG : Hid (∀ (wx : World), Mod nob w wx → ∀ i : Int, Calls Try.prog 37 #[.pointer (some ⟨p, 0, none⟩), .int .i64 i] wx fun e w' => e = .returned (.int .u64 (S.get i)) ∧ wx = w') := fun wx hm i => sheet_get (h.mod hm (fun _ _ h => h)) i
  have HOK := Lib.hid h.ok
  have hrl : readL S at_ = blockI (S.get (at_ + 7)) := rfl
  have HRL := Lib.hid hrl
  have hri : readI S at_ 0 = ⟨S.get at_ % 256, S.get at_ / 256 % 256, S.get at_ / 65536 % 65536, if 1048576 < S.get (at_ + 1) then 1048576 else S.get (at_ + 1), List.replicate 13 0, []⟩ := by unfold readI; rw [readTo_zero]
  obtain ⟨x, hxx⟩ : ∃ x, x = S.get at_ := ⟨_, rfl⟩
  obtain ⟨y, hyy⟩ : ∃ y, y = S.get (at_ + 1) := ⟨_, rfl⟩
  obtain ⟨z, hzz⟩ : ∃ z, z = S.get (at_ + 7) := ⟨_, rfl⟩
  obtain ⟨li, hli⟩ : ∃ li, li = readL S at_ := ⟨_, rfl⟩
  rw [← hxx, ← hyy] at hri
  rw [← hxx] at hx
  rw [← hyy] at hy
  rw [← hzz, ← hli] at HRL
  rw [← hzz] at hz
  have HB7 : Hid (∀ wx, Calls Try.prog 119 #[.int .u64 z] wx fun e w' => e = .returned (.int .i64 li) ∧ wx = w') := fun wx => by
    have := block1_any z hz.1 hz.2 wx
    rw [← HRL.out] at this
    exact this
  have hm8 := u64_mask8 x hx.1 hx.2
  have hm88 := u64_mask8 (x / 256) (by omega) (by omega)
  have hm16 := u64_mask16 (x / 65536) (by omega) (by omega)
  have HRI := Lib.hid hri
  have HXX := Lib.hid hxx
  have HYY := Lib.hid hyy
  have HZZ := Lib.hid hzz
  have HLI := Lib.hid hli
  rw [← hli]
  obtain ⟨x0, x1⟩ := hx
  obtain ⟨y0, y1⟩ := hy
  clear h hrl hri hxx hyy hzz hli hz
  go_enter Try.func95, Try.ntmps95
  go_wp2_with fail
  refine (HG.out _ ((Mod.refl nob w).alloc _) at_).mono ?_
  rintro e w1 ⟨rfl, rfl⟩
  rw [← HXX.out]
  go_upto_region 2 with (fail)
  go_cut [7, 13, 14, 15, 16, 17, 18, 19, 20, 21, 22, 23, 24, 25, 26, 27, 28, 29, 30] (fun pv _ _ _ _ _ _ _ _ _ _ _ _ _ _ _ _ _ _ wc => pv = .pointer (some ⟨w.heap.size + 1, 0, none⟩) ∧ Hid (InoB wc w.heap.size ino0 (.slice none 0 0)) ∧ Hid (InoB wc (w.heap.size + 1) (readI S at_ 0) (.slice none 0 0)) ∧ Hid (Mod nob w wc))
  case first =>
    go_wp2_with fail
    refine (HG.out _ ((Mod.refl nob w).alloc _) (at_ + 1)).mono ?_
    rintro e w1 ⟨rfl, rfl⟩
    rw [← HYY.out]
    obtain ⟨mi, hmi⟩ : ∃ mi, (if 1048576 < y then 1048576 else y) = mi := ⟨_, rfl⟩
    have hm0 : 0 ≤ mi ∧ mi ≤ 1048576 := by rw [← hmi]; split <;> omega
    obtain ⟨hm0, hm1⟩ := hm0
    have HMI := Lib.hid hmi
    go_wp2_with fail
    go_meet
    case rel =>
      refine ⟨rfl, ?_, ?_, ((Mod.refl nob w).alloc _).alloc _⟩
      · exact inoB_lit0 (heap_new0 _ _ _)
      · rw [HRI.out, HMI.out]
        exact inoB_lit0 (heap_new1 _ _ _)
  case rest =>
    obtain ⟨rfl, HI0, HIR, HMW⟩ := hcut
    obtain ⟨wq, rfl⟩ : ∃ wq : World, wq = wc := ⟨_, rfl⟩
    clear hm8 hm88 hm16
    go_wp2_with fail
    refine (HG.out _ HMW.out (at_ + 7)).mono ?_
    rintro e w1 ⟨rfl, rfl⟩
    rw [← HZZ.out]
    go_wp2_with fail
    refine (HB7.out _).mono ?_
    rintro e w1 ⟨rfl, rfl⟩
    go_wp2_with fail
    obtain ⟨B, hB⟩ : ∃ B, B = w.heap.size + 1 := ⟨_, rfl⟩
    rw [← hB] at HIR ⊢
    have hlb : -1 ≤ li ∧ li < 256 := by
      have h1 := (HOK.out.get (at_ + 7)).1
      rw [← HZZ.out] at h1
      rw [HRL.out]
      exact blockI_lt z h1
    have HBB := Lib.hid hB
    clear hB
    go_loopg [9, 36, 39] 13 (fun gk _ iv _ wr => ∃ k : Nat, k + gk = 13 ∧ iv = .int .i64 k ∧ Hid (InoB wr B (readI S at_ k) (.slice none 0 0)) ∧ Hid (Mod (fun b => b = B) wq wr))
    case atStart => exact ⟨0, by omega, rfl, HIR.out, Mod.refl _ _⟩
    case round =>
      obtain ⟨k, hk, rfl, HIK, HMK⟩ := hrel
      have HMW2 : Hid (Mod nob w wr) := HMW.out.trans (HMK.out.mono (fun b hlt hb => by subst hb; exact .inr ⟨by have := HBB.out; omega, hlt⟩))
      by_cases hlt : k < 13
      · have hki : (k : Int) < 13 := by omega
        have hk0 : (0 : Int) ≤ (k : Int) := Int.natCast_nonneg _
        have d1 := HIK.out.at.bl k hlt
        rw [Nat.zero_add] at d1
        have f1 := HIK.out.frozen (4 + k)
        have hset := HIK.out.setBl k hlt (readB S at_ k)
        have hnx : ({ readI S at_ k with bl := (readI S at_ k).bl.set k (readB S at_ k) } : Ino) = readI S at_ (k + 1) := by
          unfold readI
          simp only
          rw [readTo_succ S at_ k hlt]
        rw [hnx] at hset
        have hrb : readB S at_ k = if k < 5 then blockI (S.get (at_ + 2 + (k : Int))) else if 0 < li then blockI (S.get (1080 + li * 8 + (k : Int) - 5)) else 0 := by
          unfold readB
          rw [← HLI.out]
        have HRB := Lib.hid hrb
        have HSET := Lib.hid hset
        have HSAME : Hid (readB S at_ k = 0 → readI S at_ (k + 1) = readI S at_ k) := by
          intro h
          unfold readI
          rw [readTo_same S at_ k h]
        clear hset hnx hrb
        generalize readB S at_ k = rb at *
        by_cases h5 : k < 5
        · have h5i : (k : Int) < 5 := by omega
          have hg := HOK.out.get (at_ + 2 + (k : Int))
          have hrb : rb = blockI (S.get (at_ + 2 + (k : Int))) := by rw [HRB.out, if_pos h5]
          have HRB2 := Lib.hid hrb
          clear hrb
          go_wp2_with fail
          refine (HG.out _ HMW2.out (at_ + 2 + (k : Int))).mono ?_
          rintro e w1 ⟨rfl, rfl⟩
          go_wp2_with fail
          refine (block1_any _ hg.1 hg.2 _).mono ?_
          rintro e w1 ⟨rfl, rfl⟩
          rw [← HRB2.out]
          go_wp2_with fail
          go_roundg (gk - 1)
          case measure => omega
          case rel => exact ⟨k + 1, by omega, by go_num, HSET.out, HMK.out.setCell (a := ⟨B, 4 + k, none⟩) (.inl rfl) _⟩
        · have h5i : ¬ (k : Int) < 5 := by omega
          by_cases hl0 : 0 < li
          · have hg := HOK.out.get (1080 + li * 8 + (k : Int) - 5)
            have hrb : rb = blockI (S.get (1080 + li * 8 + (k : Int) - 5)) := by rw [HRB.out, if_neg h5, if_pos hl0]
            have HRB2 := Lib.hid hrb
            have HBL : Hid (∀ wx, Calls Try.prog 105 #[.int .i64 li] wx fun e w' => e = .returned (.int .i64 (1080 + li * 8)) ∧ wx = w') := by
              intro wx
              have := block_any li wx
              rw [if_neg (by omega)] at this
              exact this
            clear hrb
            go_wp2_with fail
            refine (HBL.out _).mono ?_
            rintro e w1 ⟨rfl, rfl⟩
            go_wp2_with fail
            refine (HG.out _ HMW2.out (1080 + li * 8 + (k : Int) - 5)).mono ?_
            rintro e w1 ⟨rfl, rfl⟩
            go_wp2_with fail
            refine (block1_any _ hg.1 hg.2 _).mono ?_
            rintro e w1 ⟨rfl, rfl⟩
            rw [← HRB2.out]
            go_wp2_with fail
            go_roundg (gk - 1)
            case measure => omega
            case rel => exact ⟨k + 1, by omega, by go_num, HSET.out, HMK.out.setCell (a := ⟨B, 4 + k, none⟩) (.inl rfl) _⟩
          · have hrb : rb = 0 := by rw [HRB.out, if_neg h5, if_neg hl0]
            have HRB2 := Lib.hid hrb
            clear hrb
            go_wp2_with fail
            go_roundg (gk - 1)
            case measure => omega
            case rel => exact ⟨k + 1, by omega, by go_num, by rw [HSAME.out HRB2.out]; exact HIK.out, HMK.out⟩
      · have hge : ¬ (k : Int) < 13 := by omega
        obtain rfl : k = 13 := by omega
        have hrn : readI S at_ 13 = readN S at_ := rfl
        rw [hrn] at HIK
        have hl13 : (readN S at_).bl.length = 13 := readTo_len S at_ 13
        have HRG := Lib.hid (HIK.out.at.range hl13)
        have hlen : (inoL (readN S at_) (.slice none 0 0)).length = 18 := inoL_len hl13 _
        have HLEN := Lib.hid hlen
        have hI0 := HI0.out.mod HMK.out (by have := HBB.out; omega)
        have HTH : Hid (wr.there w.heap.size 0 (inoL (readN S at_) (.slice none 0 0)).toArray.size) := by
          unfold Hid
          rw [show (inoL (readN S at_) (.slice none 0 0)).toArray.size = 18 by simp [hlen]]
          intro j hj
          rw [Nat.zero_add]
          refine ⟨?_, hI0.frozen j⟩
          rw [cell_of_row _ _ _ _ _ _ hI0.1, Array.getElem?_eq_getElem (by rw [inoA_size hI0.2]; exact hj)]
          rfl
        have HONE : Hid ((inoL (readN S at_) (.slice none 0 0)).toArray.all (·.oneCell') = true) := all_oneCell_toArray (inoL_one rfl)
        have HISZ : Hid ((Try.prog.info? 25).map (·.size) = some (inoL (readN S at_) (.slice none 0 0)).toArray.size) := by
          unfold Hid
          rw [show (inoL (readN S at_) (.slice none 0 0)).toArray.size = 18 by simp [hlen]]
          exact Try.info18
        clear hrn hl13 hlen hI0
        go_upto_region 12 with (fail)
        have HRES : Hid ((wr.setCells w.heap.size 0 (inoL (readN S at_) (.slice none 0 0))).rangeAt w.heap.size 0 (inoL (readN S at_) (.slice none 0 0)) ∧ Below w.heap.size w (wr.setCells w.heap.size 0 (inoL (readN S at_) (.slice none 0 0)))) := by
          refine ⟨World.rangeAt_setCells_same wr w.heap.size 0 _ (by have := HTH.out; rwa [show (inoL (readN S at_) (.slice none 0 0)).toArray.size = (inoL (readN S at_) (.slice none 0 0)).length by simp] at this), ?_⟩
          exact (nob_mod_below HMW2.out).trans (Lib.below_setCells_w (Nat.le_refl _) _ _ _)
        go_cut [5, 67, 68] (fun v5 _ _ wc => v5 = .int .i64 li ∧ Hid (wc.rangeAt w.heap.size 0 (inoL (readN S at_) (.slice none 0 0))) ∧ Hid (Below w.heap.size w wc))
        case first =>
          go_wp2_with (first
            | (with_reducible refine wpList_load_mid (op := ⟨some 67, _, _, _, _, _⟩) rfl 25 _ rfl B 0 rfl (inoL (readN S at_) (.slice none 0 0)) _ HRG.out Try.underlying25 rfl (by rw [HLEN.out]; exact Try.info18) ?_)
            | (with_reducible refine wpList_store_mid (op := ⟨none, _, _, _, _, _⟩) rfl 25 _ _ rfl w.heap.size 0 (inoL (readN S at_) (.slice none 0 0)).toArray rfl rfl HTH.out HISZ.out HONE.out ?_))
          go_meet
          case rel => exact ⟨rfl, HRES.out.1, HRES.out.2⟩
        case rest =>
          obtain ⟨rfl, HRA, HBE⟩ := hcut
          have hlv := run_loadVar_mid (P := Try.prog) wc w.heap.size 0 25 _ _ HRA.out Try.underlying25 rfl (by rw [HLEN.out]; exact Try.info18)
          have HLV := Lib.hid hlv
          clear hlv
          go_wp2_with fail
          refine bodyPost_ret (v := .tuple #[.agg (inoL (readN S at_) (.slice none 0 0)).toArray, .int .i64 li]) ?_ rfl ⟨rfl, HBE.out⟩
          have hlv := HLV.out
          simp [results, Try.results95, asAddr, hlv]
end Go.Proofs.Ytlopdbhjdijlmaa

namespace Go.Proofs.Ytlopdbhjdijlmaa
open Go.ChangeShapes Go.WideShapes Go.ChangeAt Go.RowKit
set_option linter.unusedSimpArgs false
set_option linter.unusedVariables false

theorem heap_setCells_mid (b : Nat) (t : TypeId) : ∀ (vs pre mid post : List Value) (w : World), w.heap[b]? = some (.cells (pre ++ (mid ++ post)).toArray t (0, 0)) → mid.length = vs.length →
    (w.setCells b pre.length vs).heap[b]? = some (.cells (pre ++ (vs ++ post)).toArray t (0, 0))
  | [], pre, mid, post, w, h, hl => by
    have : mid = [] := List.eq_nil_of_length_eq_zero (by simpa using hl)
    subst this
    exact h
  | v :: vs, pre, mid, post, w, h, hl => by
    cases mid with
    | nil => simp at hl
    | cons x mid =>
      have h1 := heap_setCell_same w b pre.length _ _ v h
      have e : ((pre ++ (x :: mid ++ post)).toArray.setIfInBounds pre.length v) = ((pre ++ [v]) ++ (mid ++ post)).toArray := by
        apply Array.toList_inj.1
        simp
      rw [e] at h1
      have := heap_setCells_mid b t vs (pre ++ [v]) mid post _ h1 (by simpa using hl)
      simp only [List.length_append, List.length_cons, List.length_nil, Nat.zero_add, List.append_assoc, List.cons_append, List.nil_append] at this
      exact this

theorem InoB.setBls {w : World} {B : Nat} {n : Ino} {ev : Value} (h : InoB w B n ev) (l : List Int) (hl : l.length = 13) : InoB (w.setCells B 4 (l.map (Value.int .i64))) B { n with bl := l } ev := by
  have h1 := heap_setCells_mid B 25 (l.map (Value.int .i64)) [.int .i64 n.format, .int .i64 n.kind, .int .i64 n.links, .int .i64 n.size] (n.bl.map (Value.int .i64)) [ev] w h.1 (by rw [List.length_map, List.length_map, hl, h.2])
  exact ⟨h1, hl⟩

theorem InoB.whole {w : World} {B : Nat} {n m : Ino} {ev ev' : Value} (h : InoB w B n ev) (hm : m.bl.length = 13) : InoB (w.setCells B 0 (inoL m ev')) B m ev' := by
  have h1 := heap_setCells_all B 25 (inoL m ev') [] (inoL n ev) w h.1 (by rw [inoL_len h.2, inoL_len hm])
  exact ⟨h1, hm⟩

theorem InoB.there {w : World} {B : Nat} {n : Ino} {ev : Value} (h : InoB w B n ev) : w.there B 0 18 := by
  intro j hj
  rw [Nat.zero_add]
  refine ⟨?_, h.frozen j⟩
  rw [cell_of_row _ _ _ _ _ _ h.1, Array.getElem?_eq_getElem (by rw [inoA_size h.2]; exact hj)]
  rfl
theorem InoB.there4 {w : World} {B : Nat} {n : Ino} {ev : Value} (h : InoB w B n ev) : w.there B 4 13 := by
  intro j hj
  refine ⟨?_, h.frozen _⟩
  rw [cell_of_row _ _ _ _ _ _ h.1, Array.getElem?_eq_getElem (by rw [inoA_size h.2]; omega)]
  rfl

theorem Mod.setCells {D : Nat → Prop} {w : World} (b : Nat) (hb : D b ∨ w.heap.size ≤ b) : ∀ (vs : List Value) (o : Nat) (w' : World), Mod D w w' → Mod D w (w'.setCells b o vs)
  | [], _, _, h => h
  | v :: vs, o, w', h => Mod.setCells b hb vs (o + 1) _ (h.setCell (a := ⟨b, o, none⟩) hb v)

def RdPost (w : World) (r : Option (Ino × List Nat)) (e : Ending) (w' : World) : Prop :=
  Below w.heap.size w w' ∧ match r with
  | none => e = .returned (.tuple #[.agg (inoA ino0 (.slice none 0 0)), .slice none 0 0, .bool false])
  | some (n, all) => ∃ ev bv, e = .returned (.tuple #[.agg (inoA n ev), bv, .bool true]) ∧ HoldsE w' ev n.ents ∧ HoldsN w' bv all ∧ (∀ g, ev.ownBlock = some g → w.heap.size ≤ g) ∧ (∀ g, bv.ownBlock = some g → w.heap.size ≤ g)

theorem three_no {b1 b2 b3 : Bool} (h : ¬ (b1 = true ∧ b2 = true ∧ b3 = true)) : b1 = false ∨ b1 = true ∧ b2 = false ∨ b1 = true ∧ b2 = true ∧ b3 = false := by
  revert h
  cases b1 <;> cases b2 <;> cases b3 <;> decide

theorem ino0L : inoL ino0 (.slice none 0 0) = z18.toList := rfl

end Go.Proofs.Ytlopdbhjdijlmaa
