/-
  imagoref08.Need, palloc.Set at any number, imagolaw08.empty: contracts. No condition but the inode's being right, and bounds.
-/
import Derived.Test.YtlopdbhjdijlmaaQRefBkt
import Derived.Test.YtlopdbhjdijlmaaQRefNeed
import Derived.Test.YtlopdbhjdijlmaaQInoM
import Derived.Test.YtlopdbhjdijlmaaQRead1

namespace Go.Proofs.Ytlopdbhjdijlmaa
open Go.ChangeShapes Go.WideShapes Go.ChangeAt Go.RowKit
set_option linter.unusedSimpArgs false
set_option linter.unusedVariables false

set_option maxRecDepth 20000 in
set_option maxHeartbeats 2000000 in
theorem ref_need8 {w : World} {n : Ino} {ev : Value} (hn : n.Ok) (he : HoldsE w ev n.ents) (hr : RightP n) :
    Calls Try.prog 29 #[.agg (inoA n ev)] w fun e w' => e = .returned (.int .i64 (needI n : Nat)) ∧ Below w.heap.size w w' := by
  have hb := InoB.new w hn.len ev
  have HBEL : Hid (Below w.heap.size w (w.alloc (.cells (inoA n ev) 25))) := (Below.refl _ _).alloc (Nat.le_refl _) _
  have c0 := hb.at.c0
  have HRG := Lib.hid (hb.at.range hn.len)
  have HSA : Hid ((Try.prog.info? 25).map (·.size) = some (inoL n ev).length) := by
    unfold Hid; rw [inoL_len hn.len]; exact Try.info18
  have HN2 := Lib.hid (ref_need2 hn (he.below HBEL.out) hr)
  have HN1 := Lib.hid (ref_need hn (he.below HBEL.out) hr)
  have hn1 : needI n = if n.format = 2 then need2 n else need1 n + more1 n := rfl
  have h16 := need1_le hr
  have h11 := more1_le n
  have HNI := Lib.hid hn1
  have hfm := hr.1
  clear hb hn he hr hn1
  by_cases hf : n.format = 2
  · have HR : Hid (needI n = need2 n) := by unfold Hid; rw [HNI.out, if_pos hf]
    rw [hf] at c0
    clear hf hfm h16 h11
    go_enter Try.func29, Try.ntmps29
    go_wp2_with (first
      | (with_reducible refine wpList_load_mid (op := ⟨some 8, _, _, _, _, _⟩) rfl 25 _ rfl w.heap.size 0 rfl (inoL n ev) _ HRG.out Try.underlying25 rfl HSA.out ?_)
      | (go_at_call 62; refine HN2.out.mono ?_; rintro e w1 ⟨rfl, hb1⟩))
    go_ret
    rw [HR.out]
    exact ⟨rfl, HBEL.out.trans (hb1.mono HBEL.out.size)⟩
  · have hf1 : n.format = 1 := by omega
    have HR : Hid (needI n = need1 n + more1 n) := by unfold Hid; rw [HNI.out, if_neg hf]
    rw [hf1] at c0
    obtain ⟨nd, hnd⟩ : ∃ nd, nd = need1 n := ⟨_, rfl⟩
    obtain ⟨mo, hmo⟩ : ∃ mo, mo = more1 n := ⟨_, rfl⟩
    rw [← hnd] at HR HN1 h16
    rw [← hmo] at HR HN1 h11
    clear hf hf1 hfm hnd hmo
    go_enter Try.func29, Try.ntmps29
    go_wp2_with (first
      | (with_reducible refine wpList_load_mid (op := ⟨some 11, _, _, _, _, _⟩) rfl 25 _ rfl w.heap.size 0 rfl (inoL n ev) _ HRG.out Try.underlying25 rfl HSA.out ?_)
      | (go_at_call 63; refine HN1.out.mono ?_; rintro e w1 ⟨rfl, hb1⟩))
    go_ret
    rw [HR.out]
    exact ⟨by congr 2, HBEL.out.trans (hb1.mono HBEL.out.size)⟩

/-- A block's bit set, whatever number there is. -/
def setI (S : Sh) (x : Int) (u : Bool) : Sh := if 0 ≤ x ∧ x < 256 then setB S x.toNat u else S
theorem setI_was (S : Sh) (x : Int) (u : Bool) : (setI S x u).was.length ≤ S.was.length + 1 := by
  unfold setI
  split
  · exact setB_was _ _ _
  · omega

set_option maxRecDepth 20000 in
theorem set_int {w : World} {p : Nat} {D : Nat → Prop} {S : Sh} (h : SheetAt w p D S) (hlen : S.was.length < 1099511627776) (x : Int) (u : Bool) :
    Calls Try.prog 67 #[.pointer (some ⟨p, 0, none⟩), .int .i64 x, .bool u] w fun e w' => e = .returned (.tuple #[]) ∧ ShStep w p D w' (setI S x u) := by
  by_cases hx : 0 ≤ x ∧ x < 256
  · have e : x = ((x.toNat : Nat) : Int) := by omega
    have hs : setI S x u = setB S x.toNat u := by unfold setI; rw [if_pos hx]
    have := set_any h hlen x.toNat (by omega) u
    rw [← e] at this
    rw [hs]
    exact this
  · have hs : setI S x u = S := by unfold setI; rw [if_neg hx]
    rw [hs]
    have HP : Hid (Calls Try.prog 85 #[.int .i64 x] w fun e w' => e = .returned (.bool false) ∧ w = w') := by
      have := pin_any x w
      rw [decide_eq_false hx] at this
      exact this
    have HST := Lib.hid (ShStep.start h)
    clear h hx hs
    go_enter Try.func67, Try.ntmps67
    go_wp2_with (go_at_call 85; refine HP.out.mono ?_; rintro e w' ⟨rfl, rfl⟩)
    refine bodyPost_ret (v := .tuple #[]) (by simp [results, Try.results67, go_sem]) rfl ⟨rfl, HST.out⟩
end Go.Proofs.Ytlopdbhjdijlmaa
