/-
  What the function inside fmt1.exact answers: a contract. No condition but the bounds that are typed.
  fmt2.exact: a contract. No condition but the inode's being right, and bounds.
-/
import Derived.Test.YtlopdbhjdijlmaaQLay1
import Derived.IntWalk
import Derived.Test.YtlopdbhjdijlmaaQPut3
import Derived.Test.YtlopdbhjdijlmaaQRead2

namespace Go.Proofs.Ytlopdbhjdijlmaa
open Go.ChangeShapes Go.WideShapes Go.ChangeAt Go.RowKit
set_option linter.unusedSimpArgs false
set_option linter.unusedVariables false

/-- Eight words are the same. -/
def SameTo (S T : Sh) (from_ : Int) (m : Nat) : Prop := ∀ k, k < m → S.get (from_ + (k : Int)) = T.get (from_ + (k : Int))
open Classical in
noncomputable def sameB (S T : Sh) (from_ : Int) : Bool := decide (SameTo S T from_ 8)
open Classical in
theorem sameB_iff (S T : Sh) (from_ : Int) : sameB S T from_ = true ↔ SameTo S T from_ 8 := by unfold sameB; exact decide_eq_true_iff
theorem sameB_false {S T : Sh} {from_ : Int} (h : ¬ SameTo S T from_ 8) : sameB S T from_ = false := by
  cases hb : sameB S T from_ with
  | false => rfl
  | true => exact absurd ((sameB_iff S T from_).1 hb) h

set_option maxRecDepth 20000 in
set_option maxHeartbeats 1000000 in
theorem same_any {w : World} {p q : Nat} {D E : Nat → Prop} {S T : Sh} (h : SheetAt w p D S) (k : SheetAt w q E T) (b1 b2 : Nat) (h1 : w.cell? ⟨b1, 0, none⟩ = some (.pointer (some ⟨p, 0, none⟩))) (h2 : w.cell? ⟨b2, 0, none⟩ = some (.pointer (some ⟨q, 0, none⟩))) (fr : Int) (hf : 0 ≤ fr ∧ fr ≤ 4000) :
    Calls Try.prog 121 #[.int .i64 fr, .pointer (some ⟨b1, 0, none⟩), .pointer (some ⟨b2, 0, none⟩)] w fun e w' => e = .returned (.bool (sameB S T fr)) ∧ ∃ n, w' = w.drewN n := by
  have HS := Lib.hid h
  have HT := Lib.hid k
  have H1 := Lib.hid h1
  have H2 := Lib.hid h2
  obtain ⟨f0, f1⟩ := hf
  clear h k h1 h2
  go_enter Try.func121, Try.ntmps121
  go_wp2_with fail
  go_loopg [5, 6] 8 (fun gk _ iv wr => ∃ k : Nat, k + gk = 8 ∧ iv = .int .i64 k ∧ Hid (SameTo S T fr k) ∧ Hid (∃ n, wr = w.drewN n))
  case atStart => exact ⟨0, by omega, rfl, (fun k hk => by omega), 0, rfl⟩
  case round =>
    obtain ⟨k, hk, rfl, HP, HW⟩ := hrel
    have hmod : Mod nob w wr := by obtain ⟨n, rfl⟩ := HW.out; exact (Mod.refl nob w).drewN n
    by_cases hlt : k < 8
    · have hki : (k : Int) < 8 := by omega
      have hk0 : (0 : Int) ≤ (k : Int) := Int.natCast_nonneg _
      have c1 := hmod.cell H1.out (fun h => h)
      have c2 := hmod.cell H2.out (fun h => h)
      obtain ⟨x, hx⟩ : ∃ x, x = S.get (fr + (k : Int)) := ⟨_, rfl⟩
      obtain ⟨y, hy⟩ : ∃ y, y = T.get (fr + (k : Int)) := ⟨_, rfl⟩
      have HG1 : Hid (∀ n, Calls Try.prog 37 #[.pointer (some ⟨p, 0, none⟩), .int .i64 (fr + (k : Int))] (wr.drewN n) fun e w' => e = .returned (.int .u64 x) ∧ w' = wr.drewN n) := fun n => by
        have := sheet_get (HS.out.mod (hmod.drewN n) (fun _ _ h => h)) (fr + (k : Int))
        rw [← hx] at this
        exact this.mono fun e w' ⟨h1, h2⟩ => ⟨h1, h2.symm⟩
      have HG2 : Hid (∀ n, Calls Try.prog 37 #[.pointer (some ⟨q, 0, none⟩), .int .i64 (fr + (k : Int))] (wr.drewN n) fun e w' => e = .returned (.int .u64 y) ∧ w' = wr.drewN n) := fun n => by
        have := sheet_get (HT.out.mod (hmod.drewN n) (fun _ _ h => h)) (fr + (k : Int))
        rw [← hy] at this
        exact this.mono fun e w' ⟨h1, h2⟩ => ⟨h1, h2.symm⟩
      have hw : IntKind.i64.wrap (fr + (k : Int)) = fr + (k : Int) := IntWalk.i64_in _ (by omega)
      have HX := Lib.hid hx
      have HY := Lib.hid hy
      have HLT := Lib.hid hlt
      clear hx hy hmod
      by_cases e : x = y
      · have hb : (x != y) = false := by simpa using e
        have HE := Lib.hid e
        clear e
        go_wp2_with fail
        go_quiet ((first | (go_at_call 37; with_reducible exact Calls.quiet_of_same (HG1.out _)) | (go_at_call 37; with_reducible exact Calls.quiet_of_same (HG2.out _))))
        clear hw
        go_wp2_with fail
        go_roundg (gk - 1)
        case measure => omega
        case rel =>
          refine ⟨k + 1, by omega, by go_num, fun j hj => ?_, ?_⟩
          · by_cases e : j = k
            · subst e
              rw [← HX.out, ← HY.out]
              exact HE.out
            · exact HP.out j (by omega)
          · obtain ⟨n, h⟩ := HW.out
            exact ⟨_, by rw [h, World.drewN_drewN]⟩
      · have hb : (x != y) = true := by simpa using e
        have HE := Lib.hid e
        clear e
        go_wp2_with fail
        go_quiet ((first | (go_at_call 37; with_reducible exact Calls.quiet_of_same (HG1.out _)) | (go_at_call 37; with_reducible exact Calls.quiet_of_same (HG2.out _))))
        clear hw
        go_wp2_with fail
        go_ret
        refine ⟨ret_b (sameB_false (fun h => ?_)).symm, ?_⟩
        · have := h k HLT.out
          rw [← HX.out, ← HY.out] at this
          exact HE.out this
        · obtain ⟨n, h⟩ := HW.out
          exact ⟨_, by rw [h, World.drewN_drewN]⟩
    · have hge : ¬ (k : Int) < 8 := by omega
      obtain rfl : k = 8 := by omega
      go_wp2_with fail
      go_ret
      exact ⟨ret_b ((sameB_iff S T fr).2 HP.out).symm, HW.out⟩
end Go.Proofs.Ytlopdbhjdijlmaa

namespace Go.Proofs.Ytlopdbhjdijlmaa
open Go.ChangeShapes Go.WideShapes Go.ChangeAt Go.RowKit
set_option linter.unusedSimpArgs false
set_option linter.unusedVariables false

def frL (at_ : Nat) (own : List Nat) : List Nat := at_ :: own.map fun b => 1080 + b * 8
theorem frL_len (at_ : Nat) (own : List Nat) : (frL at_ own).length = own.length + 1 := by simp [frL]
theorem frL_succ (at_ : Nat) (own : List Nat) (k : Nat) (hk : k < own.length) : (frL at_ own).take (k + 2) = (frL at_ own).take (k + 1) ++ [1080 + own.getD k 0 * 8] := by
  rw [List.take_succ_eq_append_getElem (by rw [frL_len]; omega)]
  congr 2
  simp [frL, hk]

def ExactT (S : Sh) (at_ : Nat) (n : Ino) (own : List Nat) : Prop :=
  own.length = need2 n ∧ ApartTo own own.length ∧ (∀ k, k < own.length → own.getD k 0 ≠ 0) ∧ ∀ j, j < own.length + 1 → SameTo S (put2S (Sh.new []) (at_ : Int) n own) (((frL at_ own).getD j 0 : Nat) : Int) 8
open Classical in
noncomputable def exactT (S : Sh) (at_ : Nat) (n : Ino) (own : List Nat) : Bool := decide (ExactT S at_ n own)
open Classical in
theorem exactT_iff (S : Sh) (at_ : Nat) (n : Ino) (own : List Nat) : exactT S at_ n own = true ↔ ExactT S at_ n own := by unfold exactT; exact decide_eq_true_iff
open Classical in
theorem exactT_false {S : Sh} {at_ : Nat} {n : Ino} {own : List Nat} (h : ¬ ExactT S at_ n own) : exactT S at_ n own = false := by unfold exactT; exact decide_eq_false h

set_option maxRecDepth 20000 in
set_option maxHeartbeats 8000000 in
theorem exactT_any {w : World} {p : Nat} {D : Nat → Prop} {S : Sh} (h : SheetAt w p D S) (at_ : Nat) (ha : at_ ≤ 3000) {n : Ino} {ev bv : Value} {own : List Nat} (hn : n.Ok) (hev : HoldsE w ev n.ents) (hbv : HoldsN w bv own) (hob : ∀ b ∈ own, b < 256) (hr : RightP n) :
    Calls Try.prog 101 #[.pointer (some ⟨p, 0, none⟩), .int .i64 (at_ : Nat), .agg (inoA n ev), bv] w fun e w' => e = .returned (.bool (exactT S at_ n own)) ∧ Below w.heap.size w w' := by
  obtain ⟨i0, hi0, hz0, hz1, hz2⟩ := info_parts infoInt
  have HNO := Lib.hid hn
  have HOB := Lib.hid hob
  have HR := Lib.hid hr
  have HM0 : Hid (Mod nob w (w.alloc (.cells (inoA n ev) 25))) := (Mod.refl nob w).alloc _
  have HBEL : Hid (Below w.heap.size w (w.alloc (.cells (inoA n ev) 25))) := (Below.refl _ _).alloc (Nat.le_refl _) _
  have HA0 : Hid (InoB (w.alloc (.cells (inoA n ev) 25)) w.heap.size n ev) := InoB.new w hn.len ev
  have HSH := Lib.hid (h.mod HM0.out (fun _ _ h => h))
  have HE := Lib.hid (hev.mod HM0.out (fun _ _ _ h => h))
  have HB := Lib.hid (hbv.mod HM0.out (fun _ _ _ h => h))
  have HDL : Hid (∀ b, D b → b < w.heap.size) := h.lt
  have HRA := Lib.hid (HA0.out.at.range hn.len)
  have HSA : Hid ((Try.prog.info? 25).map (·.size) = some (inoL n ev).length) := by
    unfold Hid; rw [inoL_len hn.len]; exact Try.info18
  have HNEED := Lib.hid (need2_any hn HE.out hr)
  have HBLT : Hid (own ≠ [] → ∀ g, bv.ownBlock = some g → g < w.heap.size) := hbv.lt
  have HELT : Hid (n.ents ≠ [] → ∀ g, ev.ownBlock = some g → g < w.heap.size) := hev.lt
  obtain ⟨nd, hnd⟩ : ∃ nd, nd = need2 n := ⟨_, rfl⟩
  have hnd40 : nd ≤ 40 := by rw [hnd]; exact need2_le hr
  rw [← hnd] at HNEED
  have HND := Lib.hid hnd
  obtain ⟨M, hM⟩ : ∃ M, M = own.length := ⟨_, rfl⟩
  have HMM := Lib.hid hM
  obtain ⟨ba, bc, rfl, b1, b2, -, -⟩ := hbv
  rw [← hM] at b1 HB HBLT ⊢
  unfold maxLen at b2
  have hs0 : (w.alloc (.cells (inoA n ev) 25)).heap.size = w.heap.size + 1 := by simp
  have HS0 := Lib.hid hs0
  clear h hn hev hob hr hnd hM hs0
  by_cases hne : M = nd
  · subst hne
    go_enter Try.func101, Try.ntmps101
    go_upto_region 3 with (first
      | (with_reducible refine wpList_load_mid (op := ⟨some 19, _, _, _, _, _⟩) rfl 25 _ rfl w.heap.size 0 rfl (inoL n ev) _ HRA.out Try.underlying25 rfl HSA.out ?_)
      | (go_at_call 93; refine HNEED.out.mono ?_; rintro e w1 ⟨rfl, hb1⟩))
    generalize w.alloc (.cells (inoA n ev) 25) = w0 at *
    have HM1 : Hid (Mod nob w0 w1) := mod_of_below hb1
    clear hb1 HNEED HRA
    go_wp2_with fail
    refine (tx_new (HoldsU.nil _) (fun z hz => by cases hz)).mono ?_
    rintro e w2 ⟨q, rfl, hq, hb2⟩
    have HM2 : Hid (Mod nob w0 w2) := HM1.out.step (mod_of_below hb2) (fun _ h => h)
    have hsz1 := HM1.out.size
    obtain ⟨E, hE⟩ : ∃ E, E = grow nob w1 w2 := ⟨_, rfl⟩
    rw [← hE] at hq
    have HEE : Hid (∀ b, E b → w.heap.size + 1 ≤ b ∧ b < w2.heap.size) := fun b hb => by
      rw [hE] at hb
      have := HS0.out
      rcases hb with hb | hb
      · exact hb.elim
      · omega
    have HRA2 := Lib.hid ((HA0.out.mod HM2.out (fun h => h)).at.range HNO.out.len)
    have HPUT := Lib.hid (put2_any hq (by show (0 : Nat) + 1100 < _; omega) (at_ : Int) (by omega) HNO.out (HE.out.mod HM2.out (fun _ _ _ h => h)) (HB.out.mod HM2.out (fun _ _ _ h => h)) (fun h0 g hg hd => by have h1 := HELT.out h0 g hg; have h2 := HEE.out g hd; omega) (fun h0 g hg hd => by have h1 := HBLT.out h0 g hg; have h2 := HEE.out g hd; omega) HOB.out HR.out (by rw [← HMM.out]; exact HND.out))
    obtain ⟨T, hT⟩ : ∃ T, T = put2S (Sh.new []) (at_ : Int) n own := ⟨_, rfl⟩
    rw [← hT] at HPUT
    have HTT := Lib.hid hT
    clear hb2 hE hq hsz1 hT
    go_wp2_with (with_reducible refine wpList_load_mid (op := ⟨some 25, _, _, _, _, _⟩) rfl 25 _ rfl w.heap.size 0 rfl (inoL n ev) _ HRA2.out Try.underlying25 rfl HSA.out ?_)
    refine HPUT.out.mono ?_
    rintro e w3 ⟨rfl, hk3⟩
    have HTS : Hid (SheetAt w3 q (grow E w2 w3) T) := hk3.1
    have HM3 : Hid (Mod E w2 w3) := hk3.2
    have HSS : Hid (SheetAt w3 p D S) := (HSH.out.mod HM2.out (fun _ _ h => h)).mod hk3.2 (fun b hd he => by have h1 := HDL.out b hd; have h2 := HEE.out b he; omega)
    have HB3 : Hid (HoldsN w3 (.slice ba M bc) own) := (HB.out.mod HM2.out (fun _ _ _ h => h)).mod hk3.2 (fun h0 g hg he => by have h1 := HBLT.out h0 g hg; have h2 := HEE.out g he; omega)
    have HBW : Hid (Below w.heap.size w w3) := HBEL.out.trans ((HM2.out.below (by have := HS0.out; omega) (fun b h => h.elim)).trans (hk3.2.below (by have h1 := HM2.out.size; have h2 := HS0.out; omega) (fun b hb => by have := HEE.out b hb; omega)))
    clear hk3 HPUT HRA2 HSH HB HE HEE HM3 HM2 HM1 HM0 HBEL HA0 HSA
    go_upto_region 7 with (fail)
    obtain ⟨F, hF⟩ : ∃ F, F = w3.heap.size := ⟨_, rfl⟩
    obtain ⟨Mt, hMt⟩ : ∃ Mt, Mt = w3.heap.size + 1 := ⟨_, rfl⟩
    have hfb : ((w3.alloc (.cells #[.int .i64 (at_ : Nat)] 3)).alloc (.cells Try.zeroCells140 140)).heap[F]? = some (.cells #[.int .i64 (at_ : Nat)] 3 (0, 0)) := by rw [hF]; exact heap_new0 _ _ _
    have HFR : Hid (((w3.alloc (.cells #[.int .i64 (at_ : Nat)] 3)).alloc (.cells Try.zeroCells140 140)).ownsRow F 3 1 (.slice (some ⟨F, 0, none⟩) 1 1) 1 (nums ((frL at_ own).take 1))) := own_block hfb (Nat.le_refl _) (by unfold maxLen; omega) rfl
    have HCN0 : Hid (Counts ((w3.alloc (.cells #[.int .i64 (at_ : Nat)] 3)).alloc (.cells Try.zeroCells140 140)) Mt (fun _ => 0)) := by
      have := Counts.new (w3.alloc (.cells #[.int .i64 (at_ : Nat)] 3))
      rw [show (w3.alloc (.cells #[.int .i64 (at_ : Nat)] 3)).heap.size = Mt by rw [hMt]; simp] at this
      exact this
    have HM4 : Hid (Mod nob w3 ((w3.alloc (.cells #[.int .i64 (at_ : Nat)] 3)).alloc (.cells Try.zeroCells140 140))) := ((Mod.refl nob w3).alloc _).alloc _
    have hMF : F < Mt := by omega
    have HFF := Lib.hid hF
    have HMT := Lib.hid hMt
    have HF3 : Hid (w3.heap.size ≤ F ∧ w3.heap.size ≤ Mt) := by unfold Hid; omega
    rw [← hMt, ← hF]
    generalize (w3.alloc (.cells #[.int .i64 (at_ : Nat)] 3)).alloc (.cells Try.zeroCells140 140) = w4 at *
    have HFM : Hid (∀ g, (Value.slice (some ⟨F, 0, none⟩) 1 1).ownBlock = some g → g ≠ Mt) := fun g hg => by cases hg; show F ≠ Mt; omega
    clear hfb hF hMt
    go_wp2_with fail
    go_loopg [10, 13, 32] M (fun gk fv _ iv wr => ∃ k : Nat, k + gk = M ∧ iv = .int .i64 k ∧ Hid (ApartTo own k) ∧ Hid (∀ j, j < k → own.getD j 0 ≠ 0) ∧ Hid (Counts wr Mt (fun b => cntN own b k)) ∧ Hid (wr.ownsRow F 3 1 fv (k + 1) (nums ((frL at_ own).take (k + 1)))) ∧ Hid (∀ g, fv.ownBlock = some g → g ≠ Mt) ∧ Hid (Mod nob w3 wr))
    case atStart => exact ⟨0, by omega, rfl, (fun i j h1 h2 => by omega), (fun j hj => by omega), HCN0.out, HFR.out, HFM.out, HM4.out⟩
    case round =>
      obtain ⟨k, hk, rfl, HAP, HNZ, HCN, HRW, HRN, HMX⟩ := hrel
      by_cases hlt : k < M
      · have hki : (k : Int) < (M : Int) := by omega
        have hk0 : (0 : Int) ≤ (k : Int) := Int.natCast_nonneg _
        have hb3 := HB3.out.mod HMX.out (fun _ _ _ h => h)
        obtain ⟨ao', c', e, -, -, -, hcell⟩ := hb3
        have hlen := HMM.out
        rw [← hlen] at e
        simp only [Value.slice.injEq] at e
        obtain ⟨rfl, -, rfl⟩ := e
        obtain ⟨g, o, rfl, d0⟩ := hcell k (by omega)
        have hx256 := getD_lt HOB.out k
        have HSU := Lib.hid (frL_succ at_ own k (by omega))
        obtain ⟨x, hxx⟩ : ∃ x, x = own.getD k 0 := ⟨_, rfl⟩
        rw [← hxx] at d0 hx256 HSU
        have HX := Lib.hid hxx
        obtain ⟨d1, f1⟩ := HCN.out.cell hx256
        obtain ⟨ct, hct⟩ : ∃ ct, ct = cntN own x k := ⟨_, rfl⟩
        rw [← hct] at d1
        have hcl : ct ≤ 1000 := by rw [hct]; have := cntN_le own x k; omega
        have HCT := Lib.hid hct
        have HCN2 : Hid (Counts (wr.setCell ⟨Mt, x, none⟩ (.int .i64 ((ct : Int) + 1))) Mt (fun i => cntN own i (k + 1))) := by
          have h := HCN.out.set x (ct + 1)
          rw [hct, cntN_succ own k x hxx.symm] at h
          rw [hct]
          exact h
        have HM5 : Hid (Mod nob w3 (wr.setCell ⟨Mt, x, none⟩ (.int .i64 ((ct : Int) + 1)))) := HMX.out.setCell (a := ⟨Mt, x, none⟩) (.inr HF3.out.2) _
        have HMS : Hid (Mod (fun b => b = Mt) wr (wr.setCell ⟨Mt, x, none⟩ (.int .i64 ((ct : Int) + 1)))) := (Mod.refl (fun b => b = Mt) wr).setCell (a := ⟨Mt, x, none⟩) (.inl rfl) _
        have HRW2 : Hid ((wr.setCell ⟨Mt, x, none⟩ (.int .i64 ((ct : Int) + 1))).ownsRow F 3 1 u10 (k + 1) (nums ((frL at_ own).take (k + 1)))) := HMS.out.own HRW.out HRN.out
        have HBE2 : Hid (Below w.heap.size w (wr.setCell ⟨Mt, x, none⟩ (.int .i64 ((ct : Int) + 1)))) := HBW.out.trans (HM5.out.below HBW.out.size (fun b h => h.elim))
        have hxi : (x : Int) < 256 := by omega
        have hx0 : (0 : Int) ≤ (x : Int) := Int.natCast_nonneg _
        clear hcell hxx hct hlen
        rcases Nat.eq_zero_or_pos ct with hc0 | hc0
        · by_cases hxz : x = 0
          · have hbad : exactT S at_ n own = false := exactT_false (fun hh => hh.2.2.1 k (by have := HMM.out; omega) (by rw [← HX.out]; exact hxz))
            have HBAD := Lib.hid hbad
            subst hxz
            subst hc0
            clear hbad
            go_wp2_with fail
            go_ret
            rw [HBAD.out]
            exact ⟨rfl, HBE2.out⟩
          · have hxb : ((x : Int) == 0) = false := beq_false_of_ne (by omega)
            have HXZ := Lib.hid hxz
            subst hc0
            clear hxz
            have e1 : (((0 : Nat) : Int) + 1) = 1 := by decide
            rw [e1] at HCN2 HM5 HRW2 HBE2 HMS
            go_upto_region 13 with (fail)
            generalize wr.setCell ⟨Mt, x, none⟩ (.int .i64 1) = w5 at *
            have HBL : Hid (∀ wx, Calls Try.prog 105 #[.int .i64 (x : Int)] wx fun e w' => e = .returned (.int .i64 (1080 + (x : Int) * 8)) ∧ wx = w') := by
              intro wx
              have := block_any (x : Int) wx
              rw [if_neg (by omega)] at this
              exact this
            obtain ⟨va, vc, rfl, v1, v2, -⟩ := own_shape HRW2.out
            unfold maxLen at v2
            have hF5 : F ≤ w5.heap.size := by have := own_ge HRW2.out; have := HM5.out.size; have := HFF.out; omega
            have hyq : ((1080 + x * 8 : Nat) : Int) = 1080 + (x : Int) * 8 := by omega
            have HYQ := Lib.hid hyq
            clear d0 d1 f1 hyq e1
            go_wp2_with fail
            refine (HBL.out _).mono ?_
            rintro e w6 ⟨rfl, rfl⟩
            go_wp2_with (at_builtin; refine wpList_append_own_at _ rfl (.tmp 49) (.tmp 52) 56 rfl F 3 i0 (.int .i64 0) 1 8 Try.underlying56 hi0 hz0 hz1 hz2 rfl (by decide) _ (k + 1) _ rfl (HRW2.out.alloc _) ⟨w5.heap.size, 0, none⟩ 1 1 [.int .i64 (1080 + (x : Int) * 8)] rfl rfl (cells_new _ _ _) (by simp [Value.oneCell']) (by unfold maxLen; omega) (by omega) (by simp; omega) ?_)
            intro v' w6 hown hgr _ hat
            have HM6 : Hid (Mod nob w3 w6) := mod_grown (HM5.out.alloc _) hgr (fun q hq => by have := own_ge HRW2.out q hq; have := HFF.out; omega)
            have HRW6 : Hid (w6.ownsRow F 3 1 v' (k + 1 + 1) (nums ((frL at_ own).take (k + 1 + 1)))) := by
              unfold Hid
              rw [HSU.out, nums_snoc, HYQ.out]
              exact hown
            have HCN6 : Hid (Counts w6 Mt (fun i => cntN own i (k + 1))) := by
              obtain ⟨cs, c1, c2⟩ := HCN2.out
              exact ⟨cs, grown_heap hgr (((Mod.refl nob w5).alloc _).heap c1 (fun h => h)) (fun e => HRN.out Mt e rfl), c2⟩
            have HRN6 : Hid (∀ g, v'.ownBlock = some g → g ≠ Mt) := fun g hg => by
              rcases hat with e | e
              · exact HRN.out g (by rw [← e]; exact hg)
              · rw [e] at hg
                have := HCN2.out
                obtain ⟨cs, c1, c2⟩ := this
                have := lt_of_block c1
                simp at hg
                omega
            clear hown hgr hat
            go_wp2_with fail
            go_roundg (gk - 1)
            case measure => omega
            case rel =>
              refine ⟨k + 1, by omega, by go_num, fun i j h1 h2 => ?_, fun j hj => ?_, HCN6.out, HRW6.out, HRN6.out, HM6.out⟩
              · by_cases e : j = k
                · subst e
                  intro he
                  have := (cntN_pos own x j).2 ⟨i, h1, by rw [he]; exact HX.out.symm⟩
                  have := HCT.out
                  omega
                · exact HAP.out i j h1 (by omega)
              · by_cases e : j = k
                · subst e
                  rw [← HX.out]
                  exact HXZ.out
                · exact HNZ.out j (by omega)
        · have hc1 : (1 : Int) < (ct : Int) + 1 := by omega
          have hbad : exactT S at_ n own = false := exactT_false (fun hh => by
            have h0 := hc0
            rw [HCT.out] at h0
            obtain ⟨j, h1, h2⟩ := (cntN_pos own x k).1 h0
            exact hh.2.1 j k h1 (by have := HMM.out; omega) (by rw [h2]; exact HX.out))
          have HBAD := Lib.hid hbad
          clear hbad
          go_wp2_with fail
          go_ret
          rw [HBAD.out]
          exact ⟨rfl, HBE2.out⟩
      · have hge : ¬ (k : Int) < (M : Int) := by omega
        obtain ⟨MM, hMM⟩ : ∃ MM, MM = M := ⟨_, rfl⟩
        obtain rfl : k = M := by omega
        have htk : (frL at_ own).take (k + 1) = frL at_ own := List.take_of_length_le (by rw [frL_len]; have := HMM.out; omega)
        have hrw := HRW.out
        rw [htk] at hrw
        have HFW := Lib.hid hrw
        obtain ⟨ga, gc, rfl, -, -, -, -⟩ := own_some hrw (by omega)
        obtain ⟨_, _, e, v1, v2, -⟩ := own_shape hrw
        simp only [Value.slice.injEq] at e
        obtain ⟨-, -, rfl⟩ := e
        unfold maxLen at v2
        have HG1 : Hid (∀ i : Int, Calls Try.prog 37 #[.pointer (some ⟨p, 0, none⟩), .int .i64 i] wr fun e w' => e = .returned (.int .u64 (S.get i)) ∧ wr = w') := fun i => sheet_get (HSS.out.mod HMX.out (fun _ _ h => h)) i
        have HG2 : Hid (∀ i : Int, Calls Try.prog 37 #[.pointer (some ⟨q, 0, none⟩), .int .i64 i] wr fun e w' => e = .returned (.int .u64 (T.get i)) ∧ wr = w') := fun i => sheet_get (HTS.out.mod HMX.out (fun _ _ h => h)) i
        have HBE : Hid (Below w.heap.size w wr) := HBW.out.trans (HMX.out.below HBW.out.size (fun b h => h.elim))
        have hflt : ∀ j, j < k + 1 → (frL at_ own).getD j 0 ≤ 4000 := by
          intro j hj
          cases j with
          | zero => show at_ ≤ 4000; omega
          | succ j =>
            have h1 := getD_lt HOB.out j
            have : (frL at_ own).getD (j + 1) 0 = 1080 + own.getD j 0 * 8 := by
              unfold frL
              rw [List.getD_cons_succ, List.getD_eq_getElem?_getD, List.getElem?_map, List.getElem?_eq_getElem (by have := HMM.out; omega), List.getD_eq_getElem?_getD, List.getElem?_eq_getElem (by have := HMM.out; omega)]
              rfl
            omega
        have HFL := Lib.hid hflt
        clear hrw htk HRW HRN HCN hflt hge
        go_wp2_with fail
        go_loopg [15, 57] (k + 1) (fun gk _ iv wx => ∃ j : Nat, j + gk = k + 1 ∧ iv = .int .i64 j ∧ Hid (∀ i, i < j → SameTo S T (((frL at_ own).getD i 0 : Nat) : Int) 8) ∧ wr = wx)
        case atStart => exact ⟨0, by omega, rfl, (fun i hi => by omega), rfl⟩
        case round =>
          obtain ⟨j, hj, rfl, HSA, rfl⟩ := hrel
          by_cases hlt2 : j < k + 1
          · have hji : (j : Int) < (k : Int) + 1 := by omega
            have hj0 : (0 : Int) ≤ (j : Int) := Int.natCast_nonneg _
            have d1 := HFW.out.cells rfl j _ (nums_get (frL at_ own) j (by rw [frL_len]; have := HMM.out; omega))
            rw [Addr.add_lit, Nat.zero_add] at d1
            have hf4 := HFL.out j hlt2
            obtain ⟨f, hf⟩ : ∃ f, f = (frL at_ own).getD j 0 := ⟨_, rfl⟩
            rw [← hf] at d1 hf4
            have HFE := Lib.hid hf
            have hfi : (f : Int) ≤ 4000 := by omega
            have HLT2 := Lib.hid hlt2
            clear hf
            go_wp2_with fail
            go_loopg [16, 61] 8 (fun gk _ iv wx => ∃ i : Nat, i + gk = 8 ∧ iv = .int .i64 i ∧ Hid (SameTo S T (f : Int) i) ∧ wr = wx)
            case atStart => exact ⟨0, by omega, rfl, (fun k hk => by omega), rfl⟩
            case round =>
              obtain ⟨i, hi, rfl, HSI, rfl⟩ := hrel
              by_cases hlt3 : i < 8
              · have hii : (i : Int) < 8 := by omega
                have hi0 : (0 : Int) ≤ (i : Int) := Int.natCast_nonneg _
                obtain ⟨x, hx⟩ : ∃ x, x = S.get ((f : Int) + (i : Int)) := ⟨_, rfl⟩
                obtain ⟨y, hy⟩ : ∃ y, y = T.get ((f : Int) + (i : Int)) := ⟨_, rfl⟩
                have HX1 := Lib.hid (HG1.out ((f : Int) + (i : Int)))
                have HX2 := Lib.hid (HG2.out ((f : Int) + (i : Int)))
                rw [← hx] at HX1
                rw [← hy] at HX2
                have HX := Lib.hid hx
                have HY := Lib.hid hy
                have HLT3 := Lib.hid hlt3
                clear hx hy
                by_cases e : x = y
                · have hb : (x != y) = false := by simpa using e
                  have HE := Lib.hid e
                  clear e
                  go_wp2_with fail
                  refine HX1.out.mono ?_
                  rintro e w6 ⟨rfl, rfl⟩
                  go_wp2_with fail
                  refine HX2.out.mono ?_
                  rintro e w6 ⟨rfl, rfl⟩
                  go_wp2_with fail
                  go_roundg (8 - i - 1)
                  case measure => omega
                  case rel =>
                    refine ⟨i + 1, by omega, by go_num, fun k hk => ?_, rfl⟩
                    by_cases e : k = i
                    · subst e
                      rw [← HX.out, ← HY.out]
                      exact HE.out
                    · exact HSI.out k (by omega)
                · have hb : (x != y) = true := by simpa using e
                  have hbad : exactT S at_ n own = false := exactT_false (fun hh => e (by
                    have := hh.2.2.2 j (by have := HMM.out; have := HLT2.out; omega) i HLT3.out
                    rw [← HFE.out, ← HTT.out] at this
                    rw [HX.out, HY.out]
                    exact this))
                  have HBAD := Lib.hid hbad
                  clear hbad e
                  go_wp2_with fail
                  refine HX1.out.mono ?_
                  rintro e w6 ⟨rfl, rfl⟩
                  go_wp2_with fail
                  refine HX2.out.mono ?_
                  rintro e w6 ⟨rfl, rfl⟩
                  go_wp2_with fail
                  go_ret
                  rw [HBAD.out]
                  exact ⟨rfl, HBE.out⟩
              · have hge3 : ¬ (i : Int) < 8 := by omega
                obtain rfl : i = 8 := by omega
                go_wp2_with fail
                go_roundg (k + 1 - j - 1)
                case measure => omega
                case rel =>
                  refine ⟨j + 1, by omega, by go_num, fun i hi => ?_, rfl⟩
                  by_cases e : i = j
                  · subst e
                    rw [← HFE.out]
                    exact HSI.out
                  · exact HSA.out i (by omega)
          · have hge2 : ¬ (j : Int) < (k : Int) + 1 := by omega
            have hgood : exactT S at_ n own = true := (exactT_iff S at_ n own).2 ⟨by rw [← HMM.out]; exact HND.out, by rw [← HMM.out]; exact HAP.out, by rw [← HMM.out]; exact HNZ.out, fun i hi => by rw [← HTT.out]; exact HSA.out i (by have := HMM.out; omega)⟩
            have HGD := Lib.hid hgood
            clear hgood
            go_wp2_with fail
            go_ret
            rw [HGD.out]
            exact ⟨rfl, HBE.out⟩
  · have hnei : ((M : Int) != (nd : Int)) = true := by simp; omega
    have hx : exactT S at_ n own = false := exactT_false (fun hh => hne (by rw [HMM.out, HND.out]; exact hh.1))
    have HXX := Lib.hid hx
    clear hx hne
    go_enter Try.func101, Try.ntmps101
    go_wp2_with (first
      | (with_reducible refine wpList_load_mid (op := ⟨some 19, _, _, _, _, _⟩) rfl 25 _ rfl w.heap.size 0 rfl (inoL n ev) _ HRA.out Try.underlying25 rfl HSA.out ?_)
      | (go_at_call 93; refine HNEED.out.mono ?_; rintro e w1 ⟨rfl, hb1⟩))
    go_ret
    rw [HXX.out]
    exact ⟨rfl, HBEL.out.trans (hb1.mono HBEL.out.size)⟩
end Go.Proofs.Ytlopdbhjdijlmaa
