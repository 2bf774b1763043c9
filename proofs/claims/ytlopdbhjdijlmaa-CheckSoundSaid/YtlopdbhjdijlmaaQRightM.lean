/-
  What is an inode: plain.
  What is an inode: fmt1.file, fmt1.dir, fmt1.Right: contracts. No condition.
  What is an inode: fmt1.Right: a contract. No condition.
-/
import Derived.Test.YtlopdbhjdijlmaaQApp
import Derived.Test.YtlopdbhjdijlmaaQPackM

namespace Go.Proofs.Ytlopdbhjdijlmaa
set_option linter.unusedVariables false

/-- Go's '<=' on strings. -/
def leS (a b : ByteArray) : Bool := Op.bytesLess a.toList b.toList || a.toList == b.toList

/-- How often a number is there among the first. -/
def cntB (l : List Int) (b : Int) : Nat → Nat
  | 0 => 0
  | k + 1 => cntB l b k + if l.getD k 0 = b then 1 else 0

theorem cntB_le (l : List Int) (b : Int) (k : Nat) : cntB l b k ≤ k := by
  induction k with
  | zero => simp [cntB]
  | succ k ih => simp only [cntB]; split <;> omega

theorem cntB_pos (l : List Int) (b : Int) (k : Nat) : 0 < cntB l b k ↔ ∃ j, j < k ∧ l.getD j 0 = b := by
  induction k with
  | zero => simp [cntB]
  | succ k ih =>
    simp only [cntB]
    constructor
    · intro h
      by_cases e : l.getD k 0 = b
      · exact ⟨k, by omega, e⟩
      · rw [if_neg e] at h
        obtain ⟨j, h1, h2⟩ := ih.1 h
        exact ⟨j, by omega, h2⟩
    · rintro ⟨j, h1, h2⟩
      by_cases e : j = k
      · subst e
        rw [if_pos h2]
        omega
      · have := ih.2 ⟨j, by omega, h2⟩
        omega

/-- The first blocks are a file's. -/
def BlTo (n : Ino) (m : Nat) : Prop := ∀ k, k < m → (0 ≤ n.bl.getD k 0 ∧ n.bl.getD k 0 < 256) ∧ (n.bl.getD k 0 ≠ 0 → (k : Int) * 64 < n.size ∧ ∀ j, j < k → n.bl.getD j 0 ≠ n.bl.getD k 0)
def FileOK (n : Ino) : Prop := BlTo n 13 ∧ 0 ≤ n.size ∧ n.size ≤ 832 ∧ n.ents = []

/-- The name ahead of an entry. -/
def prevN (l : List En) (k : Nat) : ByteArray := if k = 0 then ⟨#[]⟩ else (l.getD (k - 1) default).name
def entOK (l : List En) (k : Nat) : Prop := goodB (l.getD k default).name.data.toList = true ∧ leS (l.getD k default).name (prevN l k) = false ∧ 0 ≤ (l.getD k default).ino ∧ (l.getD k default).ino < 32
def EntsTo (l : List En) (m : Nat) : Prop := ∀ k, k < m → entOK l k
def Bl0 (n : Ino) : Prop := ∀ k, k < 13 → n.bl.getD k 0 = 0
def DirOK (n : Ino) : Prop := EntsTo n.ents n.ents.length ∧ n.ents.length ≤ 24 ∧ n.size = n.ents.length ∧ Bl0 n

def RightP (n : Ino) : Prop := (n.format = 1 ∨ n.format = 2) ∧ 0 ≤ n.links ∧ n.links ≤ 65535 ∧ (n.kind = 1 ∧ FileOK n ∨ n.kind = 2 ∧ DirOK n)

open Classical in
noncomputable def fileB (n : Ino) : Bool := decide (FileOK n)
open Classical in
noncomputable def dirB (n : Ino) : Bool := decide (DirOK n)
open Classical in
noncomputable def rightB (n : Ino) : Bool := decide (RightP n)

open Classical in
theorem fileB_true {n : Ino} (h : FileOK n) : fileB n = true := by unfold fileB; exact decide_eq_true h
open Classical in
theorem fileB_false {n : Ino} (h : ¬ FileOK n) : fileB n = false := by unfold fileB; exact decide_eq_false h
open Classical in
theorem dirB_true {n : Ino} (h : DirOK n) : dirB n = true := by unfold dirB; exact decide_eq_true h
open Classical in
theorem dirB_false {n : Ino} (h : ¬ DirOK n) : dirB n = false := by unfold dirB; exact decide_eq_false h
open Classical in
theorem rightB_true {n : Ino} (h : RightP n) : rightB n = true := by unfold rightB; exact decide_eq_true h
open Classical in
theorem rightB_false {n : Ino} (h : ¬ RightP n) : rightB n = false := by unfold rightB; exact decide_eq_false h
open Classical in
theorem of_rightB {n : Ino} (h : rightB n = true) : RightP n := by unfold rightB at h; exact of_decide_eq_true h
open Classical in
theorem not_rightB {n : Ino} (h : rightB n = false) : ¬ RightP n := by unfold rightB at h; exact of_decide_eq_false h

open Classical in
theorem fileB_iff (n : Ino) : fileB n = true ↔ FileOK n := by unfold fileB; exact decide_eq_true_iff
open Classical in
theorem dirB_iff (n : Ino) : dirB n = true ↔ DirOK n := by unfold dirB; exact decide_eq_true_iff
open Classical in
theorem rightB_iff (n : Ino) : rightB n = true ↔ RightP n := by unfold rightB; exact decide_eq_true_iff

theorem BlTo.succ {n : Ino} {k : Nat} (h : BlTo n k) (h0 : 0 ≤ n.bl.getD k 0) (h1 : n.bl.getD k 0 < 256) (h2 : n.bl.getD k 0 ≠ 0 → (k : Int) * 64 < n.size ∧ cntB n.bl (n.bl.getD k 0) k = 0) : BlTo n (k + 1) := by
  intro j hj
  by_cases e : j = k
  · subst e
    refine ⟨⟨h0, h1⟩, fun hb => ⟨(h2 hb).1, fun i hi e => ?_⟩⟩
    have := (cntB_pos n.bl (n.bl.getD j 0) j).2 ⟨i, hi, e⟩
    have := (h2 hb).2
    omega
  · exact h j (by omega)
end Go.Proofs.Ytlopdbhjdijlmaa

namespace Go.Proofs.Ytlopdbhjdijlmaa
open Go.ChangeShapes Go.WideShapes Go.ChangeAt Go.RowKit
set_option linter.unusedSimpArgs false
set_option linter.unusedVariables false

theorem Try.info13 : (Try.prog.info? 22).map (·.size) = some 13 := by kernel_rfl
theorem zeros256 : Try.zeroCells140 = Array.replicate 256 (Value.int .i64 0) := by kernel_rfl

theorem idx13i (l : List Int) (hl : l.length = 13) (k : Nat) (hk : k < 13) (w : World) :
    (Instr.index 22 (.agg (l.map (Value.int .i64)).toArray) (.int .i64 k)).run Try.prog w = .ok (.int .i64 (l.getD k 0)) w :=
  run_index_arr Try.underlying22 Try.underlying3 rfl (by kernel_rfl) _ _ k _ hk (by simp [hl, hk]) w

theorem ret_b {a b : Bool} (h : a = b) : Ending.returned (.bool a) = .returned (.bool b) := by rw [h]

/-- A block of 256 counts. -/
def Counts (w : World) (M : Nat) (f : Nat → Nat) : Prop := ∃ cs : Array Value, w.heap[M]? = some (.cells cs 140 (0, 0)) ∧ cs.size = 256 ∧ ∀ b, b < 256 → cs[b]? = some (.int .i64 (f b : Nat))

theorem Counts.cell {w : World} {M : Nat} {f : Nat → Nat} (h : Counts w M f) {b : Nat} (hb : b < 256) : w.cell? ⟨M, b, none⟩ = some (.int .i64 (f b : Nat)) ∧ w.frozen? ⟨M, b, none⟩ = false := by
  obtain ⟨cs, hh, hs, hc⟩ := h
  exact ⟨by rw [cell_of_row _ _ _ _ _ _ hh]; exact hc b hb, frozen_of_row _ _ _ _ _ hh⟩

theorem Counts.set {w : World} {M : Nat} {f : Nat → Nat} (h : Counts w M f) (b c : Nat) : Counts (w.setCell ⟨M, b, none⟩ (.int .i64 (c : Nat))) M (fun i => if i = b then c else f i) := by
  obtain ⟨cs, hh, hs, hc⟩ := h
  refine ⟨_, heap_setCell_same w M b cs _ _ hh, by simpa using hs, fun k hk => ?_⟩
  show _ = some (Value.int .i64 ((if k = b then c else f k : Nat) : Int))
  by_cases e : k = b
  · subst e
    rw [Array.getElem?_setIfInBounds]
    simp only [if_true]
    rw [if_pos (by omega)]
  · rw [Array.getElem?_setIfInBounds, if_neg (fun h => e h.symm), if_neg e]
    exact hc k hk

theorem Counts.new (w : World) : Counts (w.alloc (.cells Try.zeroCells140 140)) w.heap.size (fun _ => 0) := by
  refine ⟨_, heap_alloc_new _ _, by rw [zeros256]; simp, fun b hb => ?_⟩
  rw [zeros256, Array.getElem?_replicate, if_pos hb]
  rfl

theorem cntB_succ (l : List Int) (k : Nat) (b : Nat) (hb : l.getD k 0 = (b : Int)) : (fun i : Nat => if i = b then cntB l b k + 1 else cntB l i k) = fun i : Nat => cntB l (i : Int) (k + 1) := by
  funext i
  simp only [cntB]
  by_cases e : i = b
  · subst e
    rw [if_pos rfl, if_pos hb]
  · rw [if_neg e, if_neg (fun h => e (by rw [hb] at h; omega))]
    rfl

set_option maxRecDepth 20000 in
set_option maxHeartbeats 1000000 in
theorem file_any {w : World} {n : Ino} {ev : Value} (hn : n.Ok) (he : HoldsE w ev n.ents) :
    Calls Try.prog 86 #[.agg (inoA n ev)] w fun e w' => e = .returned (.bool (fileB n)) ∧ Below w.heap.size w w' := by
  have hb := InoB.new w hn.len ev
  have HB := Lib.hid hb
  have HNL := Lib.hid hn.len
  have HNO := Lib.hid hn
  have hr : ((w.alloc (.cells (inoA n ev) 25)).alloc (.cells Try.zeroCells140 140)).rangeAt w.heap.size 4 (n.bl.map (Value.int .i64)) := World.rangeAt_alloc (by have := hb.at.blocks hn.len; rwa [Nat.zero_add] at this) _
  have HR := Lib.hid hr
  have HC0 := Lib.hid (Counts.new (w.alloc (.cells (inoA n ev) 25)))
  obtain ⟨ao, c, rfl, e1, e2, e3, -⟩ := he
  have hsz : (n.bl.map (Value.int .i64)).length = 13 := by simp [hn.len]
  have HSZ := Lib.hid hsz
  have H13 := Lib.hid (idx13i n.bl hn.len)
  rw [show (w.alloc (.cells (inoA n (.slice ao n.ents.length c)) 25)).heap.size = w.heap.size + 1 by simp] at HC0
  clear hb hn hr hsz e3
  go_enter Try.func86, Try.ntmps86
  go_wp2_with (with_reducible refine wpList_load_mid (op := ⟨some 7, _, _, _, _, _⟩) rfl 22 _ rfl w.heap.size 4 rfl (n.bl.map (Value.int .i64)) _ HR.out Try.underlying22 rfl (by rw [HSZ.out]; exact Try.info13) ?_)
  have HBW : Hid (InoB ((w.alloc (.cells (inoA n (.slice ao n.ents.length c)) 25)).alloc (.cells Try.zeroCells140 140)) w.heap.size n (.slice ao n.ents.length c)) := HB.out.mod ((Mod.refl nob _).alloc _) (fun h => h)
  have HBEL : Hid (Below w.heap.size w ((w.alloc (.cells (inoA n (.slice ao n.ents.length c)) 25)).alloc (.cells Try.zeroCells140 140))) := ((Below.refl _ _).alloc (Nat.le_refl _) _).alloc (by simp) _
  generalize (w.alloc (.cells (inoA n (.slice ao n.ents.length c)) 25)).alloc (.cells Try.zeroCells140 140) = w0 at *
  go_loopg [4, 5, 8] 13 (fun gk _ _ iv wr => ∃ k : Nat, k + gk = 13 ∧ iv = .int .i64 k ∧ Hid (BlTo n k) ∧ Hid (Counts wr (w.heap.size + 1) (fun b => cntB n.bl (b : Int) k)) ∧ Hid (Mod (fun b => b = w.heap.size + 1) w0 wr))
  case atStart => exact ⟨0, by omega, rfl, (fun k hk => by omega), HC0.out, Mod.refl _ _⟩
  case round =>
    obtain ⟨k, hk, rfl, HBT, HCN, HMO⟩ := hrel
    have hib := HBW.out.mod HMO.out (by omega)
    have c3 := hib.at.c3
    have c17 := hib.at.ev
    simp only [Nat.zero_add] at c3 c17
    have hbel := HBEL.out.trans (HMO.out.below HBEL.out.size (fun b hb => by omega))
    have HBE := Lib.hid hbel
    clear hib hbel
    by_cases hlt : k < 13
    · have hli : (k : Int) < 13 := by omega
      have hk0 : (0 : Int) ≤ (k : Int) := Int.natCast_nonneg _
      have hix := fun wx => H13.out k hlt wx
      have hbo := HNO.out.bl
      obtain ⟨x, hx⟩ : ∃ x, x = n.bl.getD k 0 := ⟨_, rfl⟩
      rw [← hx] at hix
      have HX := Lib.hid hx
      obtain ⟨sz, hsz⟩ : ∃ sz, sz = n.size := ⟨_, rfl⟩
      rw [← hsz] at c3
      have HS := Lib.hid hsz
      clear hx hsz hbo
      have hno : ∀ P : Prop, (P → (0 ≤ n.bl.getD k 0 ∧ n.bl.getD k 0 < 256) ∧ (n.bl.getD k 0 ≠ 0 → (k : Int) * 64 < n.size ∧ ∀ j, j < k → n.bl.getD j 0 ≠ n.bl.getD k 0) → False) → P → fileB n = false := by
        intro P h hp
        exact fileB_false (fun hf => h hp (hf.1 k hlt))
      have HNOT := Lib.hid hno
      clear hno
      rcases (show x < 0 ∨ 256 ≤ x ∨ (0 ≤ x ∧ x < 256) by omega) with h1 | h1 | ⟨h1, h2⟩
      · have HH := Lib.hid h1
        go_wp2_with fail
        go_ret
        exact ⟨ret_b (HNOT.out (x < 0) (fun h g => by have := HX.out; omega) HH.out).symm, HBE.out⟩
      · have HH := Lib.hid h1
        go_wp2_with fail
        go_ret
        exact ⟨ret_b (HNOT.out (256 ≤ x) (fun h g => by have := HX.out; omega) HH.out).symm, HBE.out⟩
      · obtain ⟨b, rfl⟩ := Int.eq_ofNat_of_zero_le h1
        have hb : b < 256 := by omega
        obtain ⟨d1, f1⟩ := HCN.out.cell hb
        obtain ⟨ct, hct⟩ : ∃ ct, ct = cntB n.bl (b : Int) k := ⟨_, rfl⟩
        rw [← hct] at d1
        have hcl : ct ≤ 13 := by rw [hct]; have := cntB_le n.bl (b : Int) k; omega
        have HCT := Lib.hid hct
        clear hct
        have HCN2 : Hid (Counts (wr.setCell ⟨w.heap.size + 1, b, none⟩ (.int .i64 ((ct : Int) + 1))) (w.heap.size + 1) (fun i => cntB n.bl (i : Int) (k + 1))) := by
          have h := HCN.out.set b (ct + 1)
          rw [HCT.out, cntB_succ n.bl k b HX.out.symm] at h
          rw [HCT.out]
          exact h
        have HMO2 : Hid (Mod (fun b => b = w.heap.size + 1) w0 (wr.setCell ⟨w.heap.size + 1, b, none⟩ (.int .i64 ((ct : Int) + 1)))) := HMO.out.setCell (a := ⟨w.heap.size + 1, b, none⟩) (.inl rfl) _
        have HBE2 : Hid (Below w.heap.size w (wr.setCell ⟨w.heap.size + 1, b, none⟩ (.int .i64 ((ct : Int) + 1)))) := HBEL.out.trans (HMO2.out.below HBEL.out.size (fun b hb => by omega))
        rcases Nat.eq_zero_or_pos b with hb0 | hb0
        · subst hb0
          go_wp2_with fail
          go_roundg (gk - 1)
          case measure => omega
          case rel => exact ⟨k + 1, by omega, by go_num, HBT.out.succ (by rw [← HX.out]; decide) (by rw [← HX.out]; decide) (fun h => absurd HX.out.symm h), HCN2.out, HMO2.out⟩
        · have hbz : ¬ (b : Int) = 0 := by omega
          have hbn : ((b : Int) != 0) = true := by simp; omega
          by_cases hs : sz ≤ (k : Int) * 64
          · have HH := Lib.hid hs
            have HB0 := Lib.hid hbz
            clear hbz
            go_wp2_with fail
            go_ret
            exact ⟨ret_b (HNOT.out (sz ≤ (k : Int) * 64) (fun h g => by have h1 := HX.out; have h2 := HS.out; have h3 := HB0.out; have := (g.2 (by omega)).1; omega) HH.out).symm, HBE.out⟩
          · have hs' : ¬ sz ≤ (k : Int) * 64 := hs
            rcases Nat.eq_zero_or_pos ct with hc0 | hc0
            · subst hc0
              have HB0 := Lib.hid hbz
              have HH := Lib.hid hs
              clear hbz
              go_wp2_with fail
              go_roundg (gk - 1)
              case measure => omega
              case rel => exact ⟨k + 1, by omega, by go_num, HBT.out.succ (by rw [← HX.out]; omega) (by rw [← HX.out]; omega) (fun h => ⟨by have h2 := HS.out; have h3 := HH.out; omega, by rw [← HX.out, ← HCT.out]⟩), HCN2.out, HMO2.out⟩
            · have hc1 : (1 : Int) < (ct : Int) + 1 := by omega
              have HB0 := Lib.hid hbz
              have HC1 := Lib.hid hc0
              clear hbz
              go_wp2_with fail
              go_ret
              refine ⟨ret_b (HNOT.out (0 < ct) (fun h g => ?_) HC1.out).symm, HBE2.out⟩
              rw [HCT.out] at h
              obtain ⟨j, h1, h2⟩ := (cntB_pos n.bl (b : Int) k).1 h
              rw [HX.out] at h2
              exact (g.2 (by rw [← HX.out]; exact HB0.out)).2 j h1 h2
    · have hge : ¬ (k : Int) < 13 := by omega
      obtain rfl : k = 13 := by omega
      obtain ⟨el, hel⟩ : ∃ el, el = n.ents.length := ⟨_, rfl⟩
      obtain ⟨sz, hsz⟩ : ∃ sz, sz = n.size := ⟨_, rfl⟩
      have HEL := Lib.hid hel
      have HS := Lib.hid hsz
      rw [← hsz] at c3
      rw [← hel] at c17
      clear hel hsz
      have hfin : Hid (FileOK n ↔ 0 ≤ sz ∧ sz ≤ 832 ∧ el = 0) := by
        unfold Hid
        rw [HS.out, HEL.out]
        constructor
        · rintro ⟨-, h1, h2, h3⟩
          exact ⟨h1, h2, by rw [h3]; rfl⟩
        · rintro ⟨h1, h2, h3⟩
          exact ⟨HBT.out, h1, h2, List.eq_nil_of_length_eq_zero h3⟩
      rcases (show sz < 0 ∨ 832 < sz ∨ (0 ≤ sz ∧ sz ≤ 832) by omega) with h1 | h1 | ⟨h1, h2⟩
      · have HH := Lib.hid h1
        go_wp2_with fail
        go_ret
        exact ⟨ret_b (fileB_false (fun h => by have := hfin.out.1 h; have := HH.out; omega)).symm, HBE.out⟩
      · have HH := Lib.hid h1
        go_wp2_with fail
        go_ret
        exact ⟨ret_b (fileB_false (fun h => by have := hfin.out.1 h; have := HH.out; omega)).symm, HBE.out⟩
      · have HH1 := Lib.hid h1
        have HH2 := Lib.hid h2
        rcases Nat.eq_zero_or_pos el with h0 | h0
        · subst h0
          go_wp2_with fail
          go_ret
          exact ⟨ret_b (fileB_true (hfin.out.2 ⟨HH1.out, HH2.out, by simp⟩)).symm, HBE.out⟩
        · have hne : ((el : Int) == 0) = false := by simp; omega
          have HH0 := Lib.hid h0
          go_wp2_with fail
          go_ret
          exact ⟨ret_b (fileB_false (fun h => by have := hfin.out.1 h; have := HH0.out; omega)).symm, HBE.out⟩

/-- An array of thirteen numbers against noughts. -/
theorem eq0_run (l : List Int) (hl : l.length = 13) (b : Bool) (hb : b = eqFrom l (List.replicate 13 0) 0 13) (w : World) :
    (Op.equalIn 10000 22 (.agg (l.map (Value.int .i64)).toArray) (.agg #[.int .i64 0, .int .i64 0, .int .i64 0, .int .i64 0, .int .i64 0, .int .i64 0, .int .i64 0, .int .i64 0, .int .i64 0, .int .i64 0, .int .i64 0, .int .i64 0, .int .i64 0])).run Try.prog w = .ok b w := by
  have := run_eq_arr (P := Try.prog) (d := 9998) Try.underlying22 Try.underlying3 (by kernel_rfl) l (List.replicate 13 0) hl (by simp) w
  rw [← hb] at this
  exact this

theorem bl0_iff (n : Ino) : Bl0 n ↔ eqFrom n.bl (List.replicate 13 0) 0 13 = true := by
  rw [eqFrom_iff]
  unfold Bl0
  constructor
  · intro h k _ hk
    rw [h k (by omega), List.getD_eq_getElem?_getD, List.getElem?_replicate, if_pos (by omega)]
    rfl
  · intro h k hk
    have := h k (by omega) (by omega)
    rw [List.getD_eq_getElem?_getD (l := List.replicate 13 0), List.getElem?_replicate, if_pos (by omega)] at this
    exact this

set_option maxRecDepth 20000 in
set_option maxHeartbeats 1000000 in
theorem dir_any {w : World} {n : Ino} {ev : Value} (hn : n.Ok) (he : HoldsE w ev n.ents) :
    Calls Try.prog 87 #[.agg (inoA n ev)] w fun e w' => e = .returned (.bool (dirB n)) ∧ Below w.heap.size w w' := by
  have hb := InoB.new w hn.len ev
  have HB := Lib.hid hb
  have HNO := Lib.hid hn
  have HE := Lib.hid he
  obtain ⟨ao, c, rfl, e1, e2, e3, -⟩ := he
  have hsz : (n.bl.map (Value.int .i64)).length = 13 := by simp [hn.len]
  have HSZ := Lib.hid hsz
  have c17 := hb.at.ev
  simp only [Nat.zero_add] at c17
  obtain ⟨L, hL⟩ : ∃ L, L = n.ents.length := ⟨_, rfl⟩
  rw [← hL] at HB HE e1 c17 ⊢
  have HL := Lib.hid hL
  unfold maxLen at e2
  have HBEL : Hid (Below w.heap.size w (w.alloc (.cells (inoA n (.slice ao L c)) 25))) := (Below.refl _ _).alloc (Nat.le_refl _) _
  have hB : w.heap.size < (w.alloc (.cells (inoA n (.slice ao L c)) 25)).heap.size := by simp
  have HBS := Lib.hid hB
  clear hb hn hsz e3 hL hB
  go_enter Try.func87, Try.ntmps87
  go_wp2_with fail
  generalize w.alloc (.cells (inoA n (.slice ao L c)) 25) = w0 at *
  go_loopg [3, 5, 9] L (fun gk la _ iv wr => ∃ k : Nat, k + gk = L ∧ iv = .int .i64 k ∧ la = .string (prevN n.ents k) ∧ Hid (EntsTo n.ents k) ∧ Hid (Mod nob w0 wr))
  case atStart => exact ⟨0, by omega, rfl, rfl, (fun k hk => by omega), Mod.refl _ _⟩
  case round =>
    obtain ⟨k, hk, rfl, rfl, HET, HMO⟩ := hrel
    have hbel := HBEL.out.trans (HMO.out.below HBEL.out.size (fun b hb => hb.elim))
    have HBE := Lib.hid hbel
    clear c17 hbel
    by_cases hlt : k < L
    · have hli : (k : Int) < (L : Int) := by omega
      obtain ⟨ao', c', e, -, -, -, hcell⟩ := HE.out.below HBE.out
      simp only [Value.slice.injEq] at e
      obtain ⟨rfl, -, rfl⟩ := e
      obtain ⟨g, o, rfl, d1, d2⟩ := hcell k (by rw [← HL.out]; exact hlt)
      have hent : (n.ents.getD k default).Ok := by
        rw [List.getD_eq_getElem?_getD, List.getElem?_eq_getElem (by rw [← HL.out]; exact hlt)]
        exact HNO.out.ents _ (List.getElem_mem _)
      have hpn : prevN n.ents (k + 1) = (n.ents.getD k default).name := by unfold prevN; rw [if_neg (by omega)]; rfl
      have HPN := Lib.hid hpn
      have hbad : ¬ entOK n.ents k → dirB n = false := fun h => dirB_false (fun hd => h (hd.1 k (by rw [← HL.out]; exact hlt)))
      have HBAD := Lib.hid hbad
      have hok : entOK n.ents k = (goodB (n.ents.getD k default).name.data.toList = true ∧ leS (n.ents.getD k default).name (prevN n.ents k) = false ∧ 0 ≤ (n.ents.getD k default).ino ∧ (n.ents.getD k default).ino < 32) := rfl
      have HOK := Lib.hid hok
      have hle : leS (n.ents.getD k default).name (prevN n.ents k) = (Op.bytesLess (n.ents.getD k default).name.toList (prevN n.ents k).toList || (n.ents.getD k default).name.toList == (prevN n.ents k).toList) := rfl
      have HLE := Lib.hid hle
      have hnm := hent.name
      have hino := hent.ino
      clear hcell hent hpn hbad hok hle
      generalize (n.ents.getD k default).name = nm at *
      generalize (n.ents.getD k default).ino = ino at *
      generalize prevN n.ents k = la at *
      have HNM := Lib.hid hnm
      clear hnm
      cases hg : goodB nm.data.toList with
      | false =>
        have HG := Lib.hid hg
        clear hg
        go_wp2_with (go_at_call 110; refine (good_any _ HNM.out _).mono ?_; rintro e w' ⟨rfl, rfl⟩; rw [HG.out])
        go_ret
        exact ⟨ret_b (HBAD.out (fun h => by rw [HOK.out] at h; have := h.1; rw [HG.out] at this; cases this)).symm, HBE.out.alloc HBE.out.size _⟩
      | true =>
        have HG := Lib.hid hg
        clear hg
        cases h1 : Op.bytesLess nm.toList la.toList with
        | true =>
          have H1 := Lib.hid h1
          go_wp2_with (go_at_call 110; refine (good_any _ HNM.out _).mono ?_; rintro e w' ⟨rfl, rfl⟩; rw [HG.out])
          go_ret
          exact ⟨ret_b (HBAD.out (fun h => by rw [HOK.out] at h; have := h.2.1; rw [HLE.out, H1.out] at this; cases this)).symm, HBE.out.alloc HBE.out.size _⟩
        | false =>
          have H1 := Lib.hid h1
          cases h2 : (nm.toList == la.toList) with
          | true =>
            have H2 := Lib.hid h2
            go_wp2_with (go_at_call 110; refine (good_any _ HNM.out _).mono ?_; rintro e w' ⟨rfl, rfl⟩; rw [HG.out])
            go_ret
            exact ⟨ret_b (HBAD.out (fun h => by rw [HOK.out] at h; have := h.2.1; rw [HLE.out, H1.out, H2.out] at this; cases this)).symm, HBE.out.alloc HBE.out.size _⟩
          | false =>
            have H2 := Lib.hid h2
            rcases (show ino < 0 ∨ 32 ≤ ino ∨ (0 ≤ ino ∧ ino < 32) by omega) with h3 | h3 | ⟨h3, h4⟩
            · have H3 := Lib.hid h3
              have hd3 : decide (ino < 0) = true := by simpa using h3
              go_wp2_with (go_at_call 110; refine (good_any _ HNM.out _).mono ?_; rintro e w' ⟨rfl, rfl⟩; rw [HG.out])
              go_ret
              exact ⟨ret_b (HBAD.out (fun h => by rw [HOK.out] at h; have := h.2.2.1; have := H3.out; omega)).symm, HBE.out.alloc HBE.out.size _⟩
            · have H3 := Lib.hid h3
              have hd3 : ¬ ino < 0 := by omega
              go_wp2_with (go_at_call 110; refine (good_any _ HNM.out _).mono ?_; rintro e w' ⟨rfl, rfl⟩; rw [HG.out])
              go_ret
              exact ⟨ret_b (HBAD.out (fun h => by rw [HOK.out] at h; have := h.2.2.2; have := H3.out; omega)).symm, HBE.out.alloc HBE.out.size _⟩
            · have H3 := Lib.hid (And.intro h3 h4)
              go_wp2_with (go_at_call 110; refine (good_any _ HNM.out _).mono ?_; rintro e w' ⟨rfl, rfl⟩; rw [HG.out])
              go_roundg (gk - 1)
              case measure => omega
              case rel =>
                refine ⟨k + 1, by omega, by go_num, by rw [HPN.out], fun j hj => ?_, HMO.out.alloc _⟩
                by_cases e : j = k
                · subst e
                  rw [HOK.out]
                  exact ⟨HG.out, by rw [HLE.out, H1.out, H2.out]; rfl, H3.out⟩
                · exact HET.out j (by omega)
    · have hge : ¬ (k : Int) < (L : Int) := by omega
      obtain rfl : k = L := by omega
      have hib := HB.out.mod HMO.out (fun h => h)
      have c3 := hib.at.c3
      have c17 := hib.at.ev
      have hrg := hib.at.blocks HNO.out.len
      simp only [Nat.zero_add] at c3 c17 hrg
      have HRG := Lib.hid hrg
      obtain ⟨sz, hsz⟩ : ∃ sz, sz = n.size := ⟨_, rfl⟩
      have HS := Lib.hid hsz
      rw [← hsz] at c3
      clear hsz hib hrg
      have hfin : Hid (DirOK n ↔ k ≤ 24 ∧ sz = k ∧ Bl0 n) := by
        unfold Hid
        rw [HS.out, HL.out]
        constructor
        · rintro ⟨-, h1, h2, h3⟩
          exact ⟨h1, h2, h3⟩
        · rintro ⟨h1, h2, h3⟩
          exact ⟨by rw [← HL.out]; exact HET.out, h1, h2, h3⟩
      by_cases h1 : k ≤ 24
      · have h1i : (k : Int) ≤ 24 := by omega
        by_cases h2 : sz = (k : Int)
        · have H12 := Lib.hid (And.intro h1 h2)
          obtain ⟨bz, hbz⟩ : ∃ bz, bz = eqFrom n.bl (List.replicate 13 0) 0 13 := ⟨_, rfl⟩
          have heq := fun wx => eq0_run n.bl HNO.out.len bz hbz wx
          have HBZ := Lib.hid hbz
          have h2b : (sz == (k : Int)) = true := by simpa using h2
          clear h1 h2 hbz
          go_wp2_with ((refine wpList_unguard (o := ⟨some 50, _, _, _, _, _⟩) (by rfl) ?_; with_reducible refine wpList_load_mid rfl 22 _ rfl w.heap.size 4 rfl (n.bl.map (Value.int .i64)) _ HRG.out Try.underlying22 rfl (by rw [HSZ.out]; exact Try.info13) ?_))
          go_ret
          refine ⟨ret_b ?_, HBE.out⟩
          cases hb : bz with
          | true => exact (dirB_true (hfin.out.2 ⟨H12.out.1, H12.out.2, (bl0_iff n).2 (by rw [← HBZ.out]; exact hb)⟩)).symm
          | false => exact (dirB_false (fun h => by have := (bl0_iff n).1 (hfin.out.1 h).2.2; rw [← HBZ.out, hb] at this; cases this)).symm
        · have H2 := Lib.hid h2
          have h2b : (sz == (k : Int)) = false := by simpa using h2
          go_wp2_with fail
          go_ret
          exact ⟨ret_b (dirB_false (fun h => H2.out (hfin.out.1 h).2.1)).symm, HBE.out⟩
      · have H1 := Lib.hid h1
        have h1i : ¬ (k : Int) ≤ 24 := by omega
        go_wp2_with fail
        go_ret
        exact ⟨ret_b (dirB_false (fun h => H1.out (hfin.out.1 h).1)).symm, HBE.out⟩
end Go.Proofs.Ytlopdbhjdijlmaa

namespace Go.Proofs.Ytlopdbhjdijlmaa
open Go.ChangeShapes Go.WideShapes Go.ChangeAt Go.RowKit
set_option linter.unusedSimpArgs false
set_option linter.unusedVariables false

theorem Try.info18 : (Try.prog.info? 25).map (·.size) = some 18 := by kernel_rfl

theorem Ino.Ok.bounds {n : Ino} (h : n.Ok) : i64 n.format ∧ i64 n.kind ∧ i64 n.links ∧ i64 n.size := ⟨h.format, h.kind, h.links, h.size⟩

set_option maxRecDepth 20000 in
set_option maxHeartbeats 8000000 in
theorem right_any {w : World} {n : Ino} {ev : Value} (hn : n.Ok) (he : HoldsE w ev n.ents) :
    Calls Try.prog 54 #[.agg (inoA n ev)] w fun e w' => e = .returned (.bool (rightB n)) ∧ Below w.heap.size w w' := by
  have hb := InoB.new w hn.len ev
  have HB := Lib.hid hb
  have HNO := Lib.hid hn
  have HE := Lib.hid he
  have hlen : (inoL n ev).length = 18 := inoL_len hn.len ev
  have HLEN := Lib.hid hlen
  have HRG := Lib.hid (hb.at.range hn.len)
  have c0 := hb.at.c0
  have c1 := hb.at.c1
  have c2 := hb.at.c2
  simp only [Nat.zero_add] at c1 c2
  have HBEL : Hid (Below w.heap.size w (w.alloc (.cells (inoA n ev) 25))) := (Below.refl _ _).alloc (Nat.le_refl _) _
  have hB : w.heap.size < (w.alloc (.cells (inoA n ev) 25)).heap.size := by simp
  have HFILE : Hid (Calls Try.prog 86 #[.agg (inoL n ev).toArray] (w.alloc (.cells (inoA n ev) 25)) fun e w' => e = .returned (.bool (fileB n)) ∧ Below (w.alloc (.cells (inoA n ev) 25)).heap.size (w.alloc (.cells (inoA n ev) 25)) w') := file_any hn (he.below HBEL.out)
  have HDIR : Hid (Calls Try.prog 87 #[.agg (inoL n ev).toArray] (w.alloc (.cells (inoA n ev) 25)) fun e w' => e = .returned (.bool (dirB n)) ∧ Below (w.alloc (.cells (inoA n ev) 25)).heap.size (w.alloc (.cells (inoA n ev) 25)) w') := dir_any hn (he.below HBEL.out)
  obtain ⟨fo, hfo⟩ : ∃ fo, fo = n.format := ⟨_, rfl⟩
  obtain ⟨ki, hki⟩ : ∃ ki, ki = n.kind := ⟨_, rfl⟩
  obtain ⟨li, hli⟩ : ∃ li, li = n.links := ⟨_, rfl⟩
  rw [← hfo] at c0
  rw [← hki] at c1
  rw [← hli] at c2
  have hfin : Hid (RightP n ↔ (fo = 1 ∨ fo = 2) ∧ 0 ≤ li ∧ li ≤ 65535 ∧ (ki = 1 ∧ fileB n = true ∨ ki = 2 ∧ dirB n = true)) := by
    unfold Hid RightP
    rw [hfo, hki, hli]
    rw [fileB_iff, dirB_iff]
  clear hb hn he hfo hki hli hlen
  rcases (show (fo ≠ 1 ∧ fo ≠ 2) ∨ (fo = 1 ∨ fo = 2) by omega) with ⟨h1, h2⟩ | hfo
  · have H1 := Lib.hid h1
    have H2 := Lib.hid h2
    have h1b : (fo != 1) = true := by simpa using h1
    have h2b : (fo != 2) = true := by simpa using h2
    go_enter Try.func54, Try.ntmps54
    go_wp2_with fail
    go_ret
    exact ⟨ret_b (rightB_false (fun h => by rcases (hfin.out.1 h).1 with e | e; exact H1.out e; exact H2.out e)).symm, HBEL.out⟩
  · have HFO := Lib.hid hfo
    rcases (show li < 0 ∨ 65535 < li ∨ (0 ≤ li ∧ li ≤ 65535) by omega) with h3 | h3 | ⟨h3, h4⟩
    · have H3 := Lib.hid h3
      have hd3 : decide (li < 0) = true := by simpa using h3
      rcases hfo with rfl | rfl
      all_goals
        go_enter Try.func54, Try.ntmps54
        go_wp2_with fail
        go_ret
        exact ⟨ret_b (rightB_false (fun h => by have := (hfin.out.1 h).2.1; have := H3.out; omega)).symm, HBEL.out⟩
    · have H3 := Lib.hid h3
      have hd3 : ¬ li < 0 := by omega
      rcases hfo with rfl | rfl
      all_goals
        go_enter Try.func54, Try.ntmps54
        go_wp2_with fail
        go_ret
        exact ⟨ret_b (rightB_false (fun h => by have := (hfin.out.1 h).2.2.1; have := H3.out; omega)).symm, HBEL.out⟩
    · have H34 := Lib.hid (And.intro h3 h4)
      by_cases hk1 : ki = 1
      · subst hk1
        obtain ⟨fb, hfb⟩ : ∃ fb, fb = fileB n := ⟨_, rfl⟩
        rw [← hfb] at HFILE hfin
        clear hfb
        have HF2 : Hid (rightB n = fb) := by
          unfold Hid
          cases fb with
          | true => exact rightB_true (hfin.out.2 ⟨HFO.out, H34.out.1, H34.out.2, .inl ⟨rfl, rfl⟩⟩)
          | false => exact rightB_false (fun h => by rcases (hfin.out.1 h).2.2.2 with h | h; exact absurd h.2 (by decide); exact absurd h.1 (by decide))
        clear hfin
        rcases hfo with rfl | rfl
        all_goals
          go_enter Try.func54, Try.ntmps54
          go_wp2_with (first
            | ((refine wpList_unguard (o := ⟨some 25, _, _, _, _, _⟩) (by rfl) ?_; with_reducible refine wpList_load_mid rfl 25 _ rfl w.heap.size 0 rfl (inoL n ev) _ HRG.out Try.underlying25 rfl (by rw [HLEN.out]; exact Try.info18) ?_))
            | (go_at_call 86; refine HFILE.out.mono ?_; rintro e w2 ⟨rfl, hb2⟩; have c1' := hb2.cell (p := ⟨w.heap.size, 1, none⟩) hB; rw [c1] at c1'; have HB2 := Lib.hid hb2; clear hb2; cases fb))
          all_goals
            go_ret
            exact ⟨ret_b HF2.out.symm, HBEL.out.trans (HB2.out.mono HBEL.out.size)⟩
      · by_cases hk2 : ki = 2
        · subst hk2
          obtain ⟨db, hdb⟩ : ∃ db, db = dirB n := ⟨_, rfl⟩
          rw [← hdb] at HDIR hfin
          clear hdb hk1
          have HF2 : Hid (rightB n = db) := by
            unfold Hid
            cases db with
            | true => exact rightB_true (hfin.out.2 ⟨HFO.out, H34.out.1, H34.out.2, .inr ⟨rfl, rfl⟩⟩)
            | false => exact rightB_false (fun h => by rcases (hfin.out.1 h).2.2.2 with h | h; exact absurd h.1 (by decide); exact absurd h.2 (by decide))
          clear hfin
          rcases hfo with rfl | rfl
          all_goals
            go_enter Try.func54, Try.ntmps54
            go_wp2_with (first
              | ((refine wpList_unguard (o := ⟨some 33, _, _, _, _, _⟩) (by rfl) ?_; with_reducible refine wpList_load_mid rfl 25 _ rfl w.heap.size 0 rfl (inoL n ev) _ HRG.out Try.underlying25 rfl (by rw [HLEN.out]; exact Try.info18) ?_))
              | (go_at_call 87; refine HDIR.out.mono ?_; rintro e w2 ⟨rfl, hb2⟩; have HB2 := Lib.hid hb2; clear hb2; cases db))
            all_goals
              go_ret
              exact ⟨ret_b HF2.out.symm, HBEL.out.trans (HB2.out.mono HBEL.out.size)⟩
        · have HK1 := Lib.hid hk1
          have HK2 := Lib.hid hk2
          have hk1b : (ki == 1) = false := by simpa using hk1
          have hk2b : (ki == 2) = false := by simpa using hk2
          rcases hfo with rfl | rfl
          all_goals
            go_enter Try.func54, Try.ntmps54
            go_wp2_with fail
            go_ret
            exact ⟨ret_b (rightB_false (fun h => by rcases (hfin.out.1 h).2.2.2 with h | h; exact HK1.out h.1; exact HK2.out h.1)).symm, HBEL.out⟩
end Go.Proofs.Ytlopdbhjdijlmaa
