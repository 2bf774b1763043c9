/-
  imagoref06.Few, imagoref06.Same of inodes that are the same, imagolaw06.awake: contracts. No condition.
  The law InodeTurns: what stands behind each put: plain lemmas. Nothing is assumed.
-/
import Derived.Test.YtlopdbhjdijlmaaQLay1
import Derived.Test.YtlopdbhjdijlmaaQRightM
import Derived.Test.YtlopdbhjdijlmaaQPut8
import Derived.Test.YtlopdbhjdijlmaaQMisc8
import Derived.Test.YtlopdbhjdijlmaaQLayGet
import Derived.Test.YtlopdbhjdijlmaaQRefRight

namespace Go.Proofs.Ytlopdbhjdijlmaa
open Go.ChangeShapes Go.WideShapes Go.ChangeAt Go.RowKit
set_option linter.unusedSimpArgs false
set_option linter.unusedVariables false

/-- What Few answers. -/
def FewP (n : Ino) : Prop := (∀ j, j < n.ents.length → j < 50 → (n.ents.getD j default).name.size ≤ 50) ∧ n.ents.length ≤ 40
open Classical in
noncomputable def fewB (n : Ino) : Bool := decide (FewP n)
open Classical in
theorem fewB_iff (n : Ino) : fewB n = true ↔ FewP n := by unfold fewB; exact decide_eq_true_iff
theorem fewB_false {n : Ino} (h : ¬ FewP n) : fewB n = false := by
  cases hb : fewB n with
  | false => rfl
  | true => exact absurd ((fewB_iff n).1 hb) h

set_option maxRecDepth 20000 in
set_option maxHeartbeats 1000000 in
theorem few6 {w : World} {n : Ino} {ev : Value} (hn : n.Ok) (he : HoldsE w ev n.ents) :
    Calls Try.prog 10 #[.agg (inoA n ev)] w fun e w' => e = .returned (.bool (fewB n)) ∧ Below w.heap.size w w' := by
  have hb := InoB.new w hn.len ev
  have HB := Lib.hid hb
  have HNO := Lib.hid hn
  have HE := Lib.hid he
  obtain ⟨ao, c, rfl, e1, e2, e3, -⟩ := he
  have c17 := hb.at.ev
  simp only [Nat.zero_add] at c17
  obtain ⟨L, hL⟩ : ∃ L, L = n.ents.length := ⟨_, rfl⟩
  rw [← hL] at HB HE e1 c17 ⊢
  have HL := Lib.hid hL
  unfold maxLen at e2
  have HBEL : Hid (Below w.heap.size w (w.alloc (.cells (inoA n (.slice ao L c)) 25))) := (Below.refl _ _).alloc (Nat.le_refl _) _
  clear hb hn e3 hL
  go_enter Try.func10, Try.ntmps10
  go_wp2_with fail
  generalize w.alloc (.cells (inoA n (.slice ao L c)) 25) = w0 at *
  go_loopg [3] 50 (fun gk iv wr => ∃ k : Nat, k + gk = 50 ∧ iv = .int .i64 k ∧ k ≤ L ∧ Hid (∀ j, j < k → (n.ents.getD j default).name.size ≤ 50) ∧ w0 = wr)
  case atStart => exact ⟨0, by omega, rfl, by omega, (fun j hj => by omega), rfl⟩
  case round =>
    obtain ⟨k, hk, rfl, hkL, HP, rfl⟩ := hrel
    by_cases hlt : k < L ∧ k < 50
    · obtain ⟨hl1, hl2⟩ := hlt
      have hlt1 : (k : Int) < (L : Int) := by omega
      have hlt2 : (k : Int) < 50 := by omega
      obtain ⟨ao', c', e, -, -, -, hcell⟩ := HE.out.below HBEL.out
      simp only [Value.slice.injEq] at e
      obtain ⟨rfl, -, rfl⟩ := e
      obtain ⟨g, o, rfl, d1, d2⟩ := hcell k (by rw [← HL.out]; exact hl1)
      obtain ⟨nm, hnm⟩ : ∃ nm, nm = (n.ents.getD k default).name := ⟨_, rfl⟩
      rw [← hnm] at d1
      have HNM := Lib.hid hnm
      clear hcell hnm
      by_cases hq2 : 50 < nm.size
      · have hqi : (50 : Int) < (nm.size : Int) := by omega
        have HQ := Lib.hid hq2
        clear hq2
        go_wp2_with fail
        go_ret
        exact ⟨ret_b (fewB_false (fun h => by have h1 := h.1 k (by have := HL.out; omega) hl2; rw [← HNM.out] at h1; have := HQ.out; omega)).symm, HBEL.out⟩
      · have hqi : ¬ (50 : Int) < (nm.size : Int) := by omega
        have HQ := Lib.hid hq2
        clear hq2
        go_wp2_with fail
        go_roundg (gk - 1)
        case measure => omega
        case rel =>
          refine ⟨k + 1, by omega, by go_num, by omega, fun j hj => ?_, rfl⟩
          by_cases e : j = k
          · subst e
            rw [← HNM.out]
            have := HQ.out
            omega
          · exact HP.out j (by omega)
    · have hfin : k = L ∨ k = 50 := by omega
      have hfew : fewB n = decide ((L : Int) ≤ 40) := by
        by_cases h40 : L ≤ 40
        · rw [decide_eq_true (show (L : Int) ≤ 40 by omega)]
          exact (fewB_iff n).2 ⟨fun j hj hj2 => HP.out j (by have := HL.out; omega), by have := HL.out; omega⟩
        · rw [decide_eq_false (show ¬ (L : Int) ≤ 40 by omega)]
          exact fewB_false (fun h => h40 (by have := HL.out; have := h.2; omega))
      have HFW := Lib.hid hfew
      clear hfew
      rcases (show (k = L ∧ k < 50) ∨ k = 50 by omega) with ⟨he, he2⟩ | he
      · have hge : ¬ (k : Int) < (L : Int) := by omega
        go_wp2_with fail
        go_ret
        exact ⟨ret_b HFW.out.symm, HBEL.out⟩
      · subst he
        by_cases hge : ((50 : Nat) : Int) < (L : Int)
        · go_wp2_with fail
          go_ret
          exact ⟨ret_b HFW.out.symm, HBEL.out⟩
        · go_wp2_with fail
          go_ret
          exact ⟨ret_b HFW.out.symm, HBEL.out⟩

/-- Two arrays of the same thirteen numbers. -/
theorem eqS_run (l : List Int) (hl : l.length = 13) (w : World) :
    (Op.equalIn 10000 22 (.agg (l.map (Value.int .i64)).toArray) (.agg (l.map (Value.int .i64)).toArray)).run Try.prog w = .ok true w := by
  have := run_eq_arr (P := Try.prog) (d := 9998) Try.underlying22 Try.underlying3 (by kernel_rfl) l l hl hl w
  rw [(eqFrom_iff l l 13 0).2 (fun _ _ _ => rfl)] at this
  exact this

set_option maxRecDepth 20000 in
set_option maxHeartbeats 2000000 in
theorem same6 {w : World} {n : Ino} {ev ev' : Value} (hn : n.Ok) (he : HoldsE w ev n.ents) (he' : HoldsE w ev' n.ents) :
    Calls Try.prog 16 #[.agg (inoA n ev), .agg (inoA n ev')] w fun e w' => e = .returned (.bool true) ∧ Below w.heap.size w w' := by
  have HNO := Lib.hid hn
  have HBEL : Hid (Below w.heap.size w ((w.alloc (.cells (inoA n ev) 25)).alloc (.cells (inoA n ev') 25))) := ((Below.refl _ _).alloc (Nat.le_refl _) _).alloc (by simp) _
  have hb1 : InoB ((w.alloc (.cells (inoA n ev) 25)).alloc (.cells (inoA n ev') 25)) w.heap.size n ev := (InoB.new w hn.len ev).mod ((Mod.refl nob _).alloc _) (fun h => h)
  have hb2 : InoB ((w.alloc (.cells (inoA n ev) 25)).alloc (.cells (inoA n ev') 25)) (w.heap.size + 1) n ev' := by
    have := InoB.new (w.alloc (.cells (inoA n ev) 25)) hn.len ev'
    rw [show (w.alloc (.cells (inoA n ev) 25)).heap.size = w.heap.size + 1 by simp] at this
    exact this
  have HE := Lib.hid (he.below HBEL.out)
  have HE' := Lib.hid (he'.below HBEL.out)
  obtain ⟨ao, c, rfl, e1, e2, -, -⟩ := he
  obtain ⟨bo, d, rfl, f1, f2, -, -⟩ := he'
  obtain ⟨L, hL⟩ : ∃ L, L = n.ents.length := ⟨_, rfl⟩
  rw [← hL] at hb1 hb2 HE HE' e1 f1 HBEL ⊢
  have HL := Lib.hid hL
  unfold maxLen at e2 f2
  have HRA := Lib.hid (hb1.at.blocks hn.len)
  have HRB := Lib.hid (hb2.at.blocks hn.len)
  have hsz : (n.bl.map (Value.int .i64)).length = 13 := by simp [hn.len]
  have HSZ := Lib.hid hsz
  have a0 := hb1.at.c0
  have a1 := hb1.at.c1
  have a2 := hb1.at.c2
  have a3 := hb1.at.c3
  have a17 := hb1.at.ev
  have b0 := hb2.at.c0
  have b1 := hb2.at.c1
  have b2 := hb2.at.c2
  have b3 := hb2.at.c3
  have b17 := hb2.at.ev
  simp only [Nat.zero_add] at a0 a1 a2 a3 a17 b0 b1 b2 b3 b17
  have heq := fun wx => eqS_run n.bl hn.len wx
  clear hb1 hb2 hn hL hsz
  go_enter Try.func16, Try.ntmps16
  go_upto_region 3 with (first
    | ((refine wpList_unguard (o := ⟨some 34, _, _, _, _, _⟩) (by rfl) ?_; with_reducible refine wpList_load_mid rfl 22 _ rfl w.heap.size (0 + 4) rfl (n.bl.map (Value.int .i64)) _ HRA.out Try.underlying22 rfl (by rw [HSZ.out]; exact Try.info13) ?_))
    | ((refine wpList_unguard (o := ⟨some 36, _, _, _, _, _⟩) (by rfl) ?_; with_reducible refine wpList_load_mid rfl 22 _ rfl (w.heap.size + 1) (0 + 4) rfl (n.bl.map (Value.int .i64)) _ HRB.out Try.underlying22 rfl (by rw [HSZ.out]; exact Try.info13) ?_)))
  generalize (w.alloc (.cells (inoA n (.slice ao L c)) 25)).alloc (.cells (inoA n (.slice bo L d)) 25) = w0 at *
  clear heq a0 a1 a2 a3 b0 b1 b2 b3
  go_wp2_with fail
  go_loopg [5] L (fun gk iv wr => ∃ k : Nat, k + gk = L ∧ iv = .int .i64 k ∧ ∃ j, wr = w0.drewN j)
  case atStart => exact ⟨0, by omega, rfl, 0, rfl⟩
  case round =>
    obtain ⟨k, hk, rfl, j, rfl⟩ := hrel
    by_cases hlt : k < L
    · have hlt1 : (k : Int) < (L : Int) := by omega
      obtain ⟨ao', c', e, -, -, -, hcell⟩ := HE.out
      simp only [Value.slice.injEq] at e
      obtain ⟨rfl, -, rfl⟩ := e
      obtain ⟨g, o, rfl, d1, d2⟩ := hcell k (by rw [← HL.out]; exact hlt)
      obtain ⟨ao', c', e, -, -, -, hcell'⟩ := HE'.out
      simp only [Value.slice.injEq] at e
      obtain ⟨rfl, -, rfl⟩ := e
      obtain ⟨g', o', rfl, d1', d2'⟩ := hcell' k (by rw [← HL.out]; exact hlt)
      clear hcell hcell'
      generalize (n.ents.getD k default).name = nm at *
      generalize (n.ents.getD k default).ino = ino at *
      go_wp2_with fail
      go_quiet (fail)
      go_wp2_with fail
      go_roundg (gk - 1)
      case measure => omega
      case rel => exact ⟨k + 1, by omega, by go_num, _, rfl⟩
    · have hge : ¬ (k : Int) < (L : Int) := by omega
      go_wp2_with fail
      go_ret
      exact ⟨rfl, below_dN HBEL.out _⟩

theorem right_new : RightP ⟨1, 1, 0, 0, List.replicate 13 0, []⟩ := by
  have h0 : ∀ k, (List.replicate 13 (0 : Int)).getD k 0 = 0 := by
    intro k
    rw [List.getD_eq_getElem?_getD, List.getElem?_replicate]
    split <;> rfl
  refine ⟨.inl rfl, by decide, by decide, .inl ⟨rfl, ?_, by decide, by decide, rfl⟩⟩
  intro k hk
  show (0 ≤ (List.replicate 13 (0 : Int)).getD k 0 ∧ (List.replicate 13 (0 : Int)).getD k 0 < 256) ∧ ((List.replicate 13 (0 : Int)).getD k 0 ≠ 0 → _)
  rw [h0 k]
  exact ⟨by decide, fun h => absurd rfl h⟩

end Go.Proofs.Ytlopdbhjdijlmaa

namespace Go.Proofs.Ytlopdbhjdijlmaa
open Go.ChangeShapes Go.WideShapes Go.ChangeAt Go.RowKit
set_option linter.unusedSimpArgs false
set_option linter.unusedVariables false

/-- An inode that lies there, apart from some blocks. -/
structure Keep (w : World) (D : Nat → Prop) (B : Nat) (n : Ino) (ev : Value) : Prop where
  ino : InoB w B n ev
  ents : HoldsE w ev n.ents
  nb : ¬ D B
  ne : n.ents ≠ [] → ∀ g, ev.ownBlock = some g → ¬ D g
theorem Keep.still {w w' : World} {D : Nat → Prop} {B : Nat} {n : Ino} {ev : Value} (h : Keep w D B n ev) (hm : Mod nob w w') : Keep w' D B n ev :=
  ⟨h.ino.mod hm (fun h => h), h.ents.mod hm (fun _ _ _ h => h), h.nb, h.ne⟩
theorem Keep.put {w w' : World} {D : Nat → Prop} {B : Nat} {n : Ino} {ev : Value} (h : Keep w D B n ev) (hm : Mod D w w') : Keep w' (grow D w w') B n ev := by
  refine ⟨h.ino.mod hm h.nb, h.ents.mod hm h.ne, fun hd => ?_, fun h0 g hg hd => ?_⟩
  · rcases hd with hd | hd
    · exact h.nb hd
    · have := h.ino.lt; omega
  · rcases hd with hd | hd
    · exact h.ne h0 g hg hd
    · have := h.ents.lt h0 g hg; omega
theorem Keep.range {w : World} {D : Nat → Prop} {B : Nat} {n : Ino} {ev : Value} (h : Keep w D B n ev) : w.rangeAt B 0 (inoL n ev) := h.ino.at.range h.ino.2
theorem InoB.setFmt {w : World} {B : Nat} {n : Ino} {ev : Value} (h : InoB w B n ev) (f : Int) : InoB (w.setCell ⟨B, 0, none⟩ (.int .i64 f)) B { n with format := f } ev := by
  refine ⟨?_, h.2⟩
  rw [heap_setCell_same _ _ _ _ _ _ h.1]
  congr 2

theorem freeTo_set_ge (S : Sh) (b : Nat) (hb : b < 256) : ∀ k, k ≤ 256 → freeTo S k ≤ freeTo (setB S b true) k + if b < k then 1 else 0 := by
  intro k
  induction k with
  | zero => intro _; simp [freeTo]
  | succ k ih =>
    intro hk
    have hs : freeTo (setB S b true) (k + 1) = freeTo (setB S b true) k + if 1 ≤ k ∧ bitB (setB S b true) k = false then 1 else 0 := rfl
    have hs2 : freeTo S (k + 1) = freeTo S k + if 1 ≤ k ∧ bitB S k = false then 1 else 0 := rfl
    have hi := ih (by omega)
    have hbit := bit_setB (S := S) b hb true k (by omega)
    by_cases e : k = b
    · subst e
      rw [if_neg (by omega)] at hi
      rw [hs, hs2, if_pos (show k < k + 1 by omega)]
      split <;> split <;> omega
    · rw [if_neg (fun h => e h.1)] at hbit
      rw [hs, hs2, hbit]
      by_cases h2 : b < k
      · rw [if_pos h2] at hi
        rw [if_pos (show b < k + 1 by omega)]
        omega
      · rw [if_neg h2] at hi
        rw [if_neg (show ¬ b < k + 1 by omega)]
        omega
theorem setI_free (S : Sh) (x : Int) : freeN S ≤ freeN (setI S x true) + 1 := by
  unfold setI
  split
  · have := freeTo_set_ge S x.toNat (by omega) 256 (Nat.le_refl _)
    rw [if_pos (by omega)] at this
    exact this
  · omega
theorem setI_get (S : Sh) (x : Int) (u : Bool) (j : Int) (hj : 820 ≤ j) : (setI S x u).get j = S.get j := by
  unfold setI
  split
  · by_cases h : j < 3128
    · have e : j = ((j.toNat : Nat) : Int) := by omega
      rw [e, get_natx _ _ (by omega), get_natx _ _ (by omega), now_setB S x.toNat (by omega) u j.toNat (.inr (by omega))]
    · unfold Sh.get
      rw [if_neg (by omega), if_neg (by omega)]
  · rfl
/-- The bits of so many numbers set. -/
def setTo (S : Sh) (l : List Int) : Nat → Sh
  | 0 => S
  | k + 1 => setI (setTo S l k) (l.getD k 0) true
theorem setTo_was (S : Sh) (l : List Int) (k : Nat) : (setTo S l k).was.length ≤ S.was.length + k := by
  induction k with
  | zero => exact Nat.le_refl _
  | succ k ih => have := setI_was (setTo S l k) (l.getD k 0) true; simp only [setTo]; omega
theorem setTo_free (S : Sh) (l : List Int) (k : Nat) : freeN S ≤ freeN (setTo S l k) + k := by
  induction k with
  | zero => simp [setTo]
  | succ k ih => have := setI_free (setTo S l k) (l.getD k 0); simp only [setTo]; omega
theorem setTo_get (S : Sh) (l : List Int) (j : Int) (hj : 820 ≤ j) (k : Nat) : (setTo S l k).get j = S.get j := by
  induction k with
  | zero => rfl
  | succ k ih => simp only [setTo]; rw [setI_get _ _ _ j hj]; exact ih
theorem new_free : freeN (Sh.new []) = 255 := by
  rw [freeN_from]
  refine freeFrom_all _ _ _ (fun c h1 h2 => ?_)
  have h := new_nil_get ((816 + c / 64 : Nat) : Int)
  rw [get_natx _ _ (by omega)] at h
  unfold bitB
  rw [h]
  simp

theorem put2S_was' (S : Sh) (at_ : Int) {n : Ino} (hr : RightP n) (own : List Nat) (ho : own.length ≤ 40) : (put2S S at_ n own).was.length ≤ S.was.length + 400 := by
  have h1 := Sh.put_was_le S at_ (tagW n)
  have h2 := Sh.put_was_le (S.put at_ (tagW n)) (at_ + 1) n.size
  unfold put2S
  split
  · unfold file2S
    have h3 := putN_was (if own = [] then ((S.put at_ (tagW n)).put (at_ + 1) n.size) else putN ((S.put at_ (tagW n)).put (at_ + 1) n.size) (1080 + ((own.getD 0 0 : Nat) : Int) * 8) (fun k => (RunsM.runs n.bl).getD (5 + k) 0) 8) (at_ + 2) (w6f (RunsM.runs n.bl) own) 6
    have h4 := putN_was ((S.put at_ (tagW n)).put (at_ + 1) n.size) (1080 + ((own.getD 0 0 : Nat) : Int) * 8) (fun k => (RunsM.runs n.bl).getD (5 + k) 0) 8
    split at h3 <;> rename_i hn
    · rw [if_pos hn]; omega
    · rw [if_neg hn]; omega
  · unfold dir2S
    have h3 := putN_was (dir2To ((S.put at_ (tagW n)).put (at_ + 1) n.size) at_ n.ents own 4) (at_ + 6) (fun _ => 0) 2
    have h4 := dir2To_was ((S.put at_ (tagW n)).put (at_ + 1) n.size) at_ n.ents own hr.ents ho 4
    omega

theorem giveS_ok {S : Sh} (hS : S.Ok) : ∀ (l : List Nat), (∀ b ∈ l, b < 256) → (giveS S l).Ok := by
  intro l
  induction l generalizing S with
  | nil => intro _; exact hS
  | cons b l ih => intro h; exact ih (setB_ok hS b false) (fun c hc => h c (by simp [hc]))
theorem lay2S_was (S : Sh) (i : Int) (n : Ino) (hr : RightP n) (hf : need2 n ≤ freeN S) : (lay2S S i n).was.length ≤ S.was.length + 3000 := by
  have hnd := need2_le hr
  have h := tookN S (need2 n) hf
  have h1 := put2S_was' (takeFrom 255 S 1 (need2 n)).1 (824 + i * 8) hr (takeFrom 255 S 1 (need2 n)).2 (by rw [h.len]; exact hnd)
  have h2 := h.was
  unfold lay2S
  omega
theorem putI_was {S : Sh} (hS : S.Ok) {i : Int} {n : Ino} (hn : n.Ok) : (putI S i n).2.was.length ≤ S.was.length + 3100 := by
  unfold putI
  split
  · dsimp only; omega
  · rename_i hi
    split
    · dsimp only; omega
    · rename_i hr
      have hr' : RightP n := Classical.not_not.1 hr
      split
      · dsimp only; omega
      · split
        · rename_i hfr
          have h1 := giveS_was (ownI S i) S
          have h2 := (ownI_law hS i).2
          dsimp only
          unfold layI
          unfold needI at hfr
          split
          · rename_i hf
            rw [if_pos hf] at hfr
            have := lay2S_was (giveS S (ownI S i)) i n hr' hfr
            omega
          · rename_i hf
            rw [if_neg hf] at hfr
            have := lay1S_ok (giveS S (ownI S i)) (giveS_ok hS (ownI S i) (ownI_law hS i).1) i (by omega) n hr' hn.len hfr
            omega
        · dsimp only; omega

/-- The inode in the other format. -/
def turnN (n : Ino) : Ino := { n with format := 3 - n.format }
theorem turnN_right {n : Ino} (h : RightP n) : RightP (turnN n) := by
  obtain ⟨h1, h2, h3, h4⟩ := h
  refine ⟨?_, h2, h3, ?_⟩
  · show 3 - n.format = 1 ∨ 3 - n.format = 2
    omega
  · rcases h4 with ⟨hk, h5⟩ | ⟨hk, h5⟩
    · exact .inl ⟨hk, h5⟩
    · exact .inr ⟨hk, h5⟩
theorem turnN_ok {n : Ino} (h : n.Ok) (hr : RightP n) : (turnN n).Ok := by
  obtain ⟨h1, h2, h3, h4, h5, h6, h7⟩ := h
  refine ⟨?_, h2, h3, h4, h5, h6, h7⟩
  have := hr.1
  show i64 (3 - n.format)
  unfold i64
  omega

/-- All three puts. -/
structure Turns (S : Sh) (i : Int) (n : Ino) (T1 T2 T3 : Sh) (xs1 xs2 xs3 : List Nat) : Prop where
  e1 : putI S i n = (0, T1)
  e2 : putI T1 i (turnN n) = (0, T2)
  e3 : putI T2 i n = (0, T3)
  i1 : InI T1 i n xs1
  i2 : InI T2 i (turnN n) xs2
  i3 : InI T3 i n xs3
  fr : freeN T3 = freeN T1
  w1 : T1.was.length ≤ S.was.length + 3100
  w2 : T2.was.length ≤ S.was.length + 6200
theorem turns_law {S : Sh} (hS : S.Ok) {i : Int} (hi : 0 ≤ i ∧ i < 32) {n : Ino} (hn : n.Ok) (hr : RightP n) (hz : ∀ j : Int, 824 + i * 8 ≤ j → j < 832 + i * 8 → S.get j = 0) (hf : 40 ≤ freeN S) (hok : ∀ T : Sh, T = (putI S i n).2 → T.Ok) :
    ∃ T1 T2 T3 xs1 xs2 xs3, Turns S i n T1 T2 T3 xs1 xs2 xs3 := by
  obtain ⟨-, he, ho⟩ := get_free hi hz
  have hfr0 : freeN (giveS S (ownI S i)) = freeN S := by rw [ho]; rfl
  have l1 := needI_le hr
  have l2 := needI_le (turnN_right hr)
  obtain ⟨a1, xs1, b1, c1⟩ := put_in hi hn hr (by rw [he]; decide) (by rw [hfr0]; omega)
  rw [hfr0] at c1
  have hw1 := putI_was hS (i := i) hn
  have hk1 := hok _ rfl
  generalize hP1 : putI S i n = P1 at *
  obtain ⟨q1, T1⟩ := P1
  dsimp only at a1 b1 c1 hw1 hk1
  subst a1
  obtain ⟨a2, xs2, b2, c2⟩ := put_in (S := T1) hi (turnN_ok hn hr) (turnN_right hr) (by rw [b1.err]; decide) (by rw [b1.free]; omega)
  rw [b1.free] at c2
  have hw2 := putI_was hk1 (i := i) (turnN_ok hn hr)
  generalize hP2 : putI T1 i (turnN n) = P2 at *
  obtain ⟨q2, T2⟩ := P2
  dsimp only at a2 b2 c2 hw2
  subst a2
  obtain ⟨a3, xs3, b3, c3⟩ := put_in (S := T2) hi hn hr (by rw [b2.err]; decide) (by rw [b2.free]; omega)
  rw [b2.free] at c3
  generalize hP3 : putI T2 i n = P3 at *
  obtain ⟨q3, T3⟩ := P3
  dsimp only at a3 b3 c3
  subst a3
  exact ⟨T1, T2, T3, xs1, xs2, xs3, hP1, hP2, hP3, b1, b2, b3, by omega, hw1, by omega⟩
end Go.Proofs.Ytlopdbhjdijlmaa
