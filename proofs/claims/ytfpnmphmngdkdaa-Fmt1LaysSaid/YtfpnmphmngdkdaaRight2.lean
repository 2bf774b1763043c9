/-
  What is an inode: fmt1.Right: a contract. No condition.
-/
import Derived.Test.YtfpnmphmngdkdaaRight
namespace Go.Proofs.Ytfpnmphmngdkdaa
open Go.ChangeShapes Go.WideShapes Go.ChangeAt Go.RowKit
set_option linter.unusedSimpArgs false
set_option linter.unusedVariables false

theorem Try.info18 : (Try.prog.info? 37).map (·.size) = some 18 := by kernel_rfl

theorem Ino.Ok.bounds {n : Ino} (h : n.Ok) : i64 n.format ∧ i64 n.kind ∧ i64 n.links ∧ i64 n.size := ⟨h.format, h.kind, h.links, h.size⟩

set_option maxRecDepth 20000 in
set_option maxHeartbeats 8000000 in
theorem right_any {w : World} {n : Ino} {ev : Value} (hn : n.Ok) (he : HoldsE w ev n.ents) :
    Calls Try.prog 32 #[.agg (inoA n ev)] w fun e w' => e = .returned (.bool (rightB n)) ∧ Below w.heap.size w w' := by
  have hb := InoB.new w hn.len ev
  have HB := Lib.hid hb
  have HNO := Lib.hid hn
  have HE := Lib.hid he
  have hlen : (inoL n ev).length = 18 := inoL_len hn.len ev
  have HLEN := Lib.hid hlen
  have HRG := Lib.hid (hb.at.range hn.len)
  have c0 := hb.at.c0
  have c1 := hb.at.c1
  have c2 := hb.at.c2
  simp only [Nat.zero_add] at c1 c2
  have HBEL : Hid (Below w.heap.size w (w.alloc (.cells (inoA n ev) 37))) := (Below.refl _ _).alloc (Nat.le_refl _) _
  have hB : w.heap.size < (w.alloc (.cells (inoA n ev) 37)).heap.size := by simp
  have HFILE : Hid (Calls Try.prog 93 #[.agg (inoL n ev).toArray] (w.alloc (.cells (inoA n ev) 37)) fun e w' => e = .returned (.bool (fileB n)) ∧ Below (w.alloc (.cells (inoA n ev) 37)).heap.size (w.alloc (.cells (inoA n ev) 37)) w') := file_any hn (he.below HBEL.out)
  have HDIR : Hid (Calls Try.prog 94 #[.agg (inoL n ev).toArray] (w.alloc (.cells (inoA n ev) 37)) fun e w' => e = .returned (.bool (dirB n)) ∧ Below (w.alloc (.cells (inoA n ev) 37)).heap.size (w.alloc (.cells (inoA n ev) 37)) w') := dir_any hn (he.below HBEL.out)
  obtain ⟨fo, hfo⟩ : ∃ fo, fo = n.format := ⟨_, rfl⟩
  obtain ⟨ki, hki⟩ : ∃ ki, ki = n.kind := ⟨_, rfl⟩
  obtain ⟨li, hli⟩ : ∃ li, li = n.links := ⟨_, rfl⟩
  rw [← hfo] at c0
  rw [← hki] at c1
  rw [← hli] at c2
  have hfin : Hid (RightP n ↔ (fo = 1 ∨ fo = 2) ∧ 0 ≤ li ∧ li ≤ 65535 ∧ (ki = 1 ∧ fileB n = true ∨ ki = 2 ∧ dirB n = true)) := by
    unfold Hid RightP
    rw [hfo, hki, hli]
    rw [fileB_iff, dirB_iff]
  clear hb hn he hfo hki hli hlen
  rcases (show (fo ≠ 1 ∧ fo ≠ 2) ∨ (fo = 1 ∨ fo = 2) by omega) with ⟨h1, h2⟩ | hfo
  · have H1 := Lib.hid h1
    have H2 := Lib.hid h2
    have h1b : (fo != 1) = true := by simpa using h1
    have h2b : (fo != 2) = true := by simpa using h2
    go_enter Try.func32, Try.ntmps32
    go_wp2_with fail
    go_ret
    exact ⟨ret_b (rightB_false (fun h => by rcases (hfin.out.1 h).1 with e | e; exact H1.out e; exact H2.out e)).symm, HBEL.out⟩
  · have HFO := Lib.hid hfo
    rcases (show li < 0 ∨ 65535 < li ∨ (0 ≤ li ∧ li ≤ 65535) by omega) with h3 | h3 | ⟨h3, h4⟩
    · have H3 := Lib.hid h3
      have hd3 : decide (li < 0) = true := by simpa using h3
      rcases hfo with rfl | rfl
      all_goals
        go_enter Try.func32, Try.ntmps32
        go_wp2_with fail
        go_ret
        exact ⟨ret_b (rightB_false (fun h => by have := (hfin.out.1 h).2.1; have := H3.out; omega)).symm, HBEL.out⟩
    · have H3 := Lib.hid h3
      have hd3 : ¬ li < 0 := by omega
      rcases hfo with rfl | rfl
      all_goals
        go_enter Try.func32, Try.ntmps32
        go_wp2_with fail
        go_ret
        exact ⟨ret_b (rightB_false (fun h => by have := (hfin.out.1 h).2.2.1; have := H3.out; omega)).symm, HBEL.out⟩
    · have H34 := Lib.hid (And.intro h3 h4)
      by_cases hk1 : ki = 1
      · subst hk1
        obtain ⟨fb, hfb⟩ : ∃ fb, fb = fileB n := ⟨_, rfl⟩
        rw [← hfb] at HFILE hfin
        clear hfb
        have HF2 : Hid (rightB n = fb) := by
          unfold Hid
          cases fb with
          | true => exact rightB_true (hfin.out.2 ⟨HFO.out, H34.out.1, H34.out.2, .inl ⟨rfl, rfl⟩⟩)
          | false => exact rightB_false (fun h => by rcases (hfin.out.1 h).2.2.2 with h | h; exact absurd h.2 (by decide); exact absurd h.1 (by decide))
        clear hfin
        rcases hfo with rfl | rfl
        all_goals
          go_enter Try.func32, Try.ntmps32
          go_wp2_with (first
            | ((refine wpList_unguard (o := ⟨some 25, _, _, _, _, _⟩) (by rfl) ?_; with_reducible refine wpList_load_mid rfl 37 _ rfl w.heap.size 0 rfl (inoL n ev) _ HRG.out Try.underlying37 rfl (by rw [HLEN.out]; exact Try.info18) ?_))
            | (go_at_call 93; refine HFILE.out.mono ?_; rintro e w2 ⟨rfl, hb2⟩; have c1' := hb2.cell (p := ⟨w.heap.size, 1, none⟩) hB; rw [c1] at c1'; have HB2 := Lib.hid hb2; clear hb2; cases fb))
          all_goals
            go_ret
            exact ⟨ret_b HF2.out.symm, HBEL.out.trans (HB2.out.mono HBEL.out.size)⟩
      · by_cases hk2 : ki = 2
        · subst hk2
          obtain ⟨db, hdb⟩ : ∃ db, db = dirB n := ⟨_, rfl⟩
          rw [← hdb] at HDIR hfin
          clear hdb hk1
          have HF2 : Hid (rightB n = db) := by
            unfold Hid
            cases db with
            | true => exact rightB_true (hfin.out.2 ⟨HFO.out, H34.out.1, H34.out.2, .inr ⟨rfl, rfl⟩⟩)
            | false => exact rightB_false (fun h => by rcases (hfin.out.1 h).2.2.2 with h | h; exact absurd h.1 (by decide); exact absurd h.2 (by decide))
          clear hfin
          rcases hfo with rfl | rfl
          all_goals
            go_enter Try.func32, Try.ntmps32
            go_wp2_with (first
              | ((refine wpList_unguard (o := ⟨some 33, _, _, _, _, _⟩) (by rfl) ?_; with_reducible refine wpList_load_mid rfl 37 _ rfl w.heap.size 0 rfl (inoL n ev) _ HRG.out Try.underlying37 rfl (by rw [HLEN.out]; exact Try.info18) ?_))
              | (go_at_call 94; refine HDIR.out.mono ?_; rintro e w2 ⟨rfl, hb2⟩; have HB2 := Lib.hid hb2; clear hb2; cases db))
            all_goals
              go_ret
              exact ⟨ret_b HF2.out.symm, HBEL.out.trans (HB2.out.mono HBEL.out.size)⟩
        · have HK1 := Lib.hid hk1
          have HK2 := Lib.hid hk2
          have hk1b : (ki == 1) = false := by simpa using hk1
          have hk2b : (ki == 2) = false := by simpa using hk2
          rcases hfo with rfl | rfl
          all_goals
            go_enter Try.func32, Try.ntmps32
            go_wp2_with fail
            go_ret
            exact ⟨ret_b (rightB_false (fun h => by rcases (hfin.out.1 h).2.2.2 with h | h; exact HK1.out h.1; exact HK2.out h.1)).symm, HBEL.out⟩
end Go.Proofs.Ytfpnmphmngdkdaa
