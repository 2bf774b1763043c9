/-
  fmt2.Lay: a contract. No condition but the sheet's length.
-/
import Derived.Test.YtlopdbhjdijlmaaQPut3

namespace Go.Proofs.Ytlopdbhjdijlmaa
open Go.ChangeShapes Go.WideShapes Go.ChangeAt Go.RowKit
set_option linter.unusedSimpArgs false
set_option linter.unusedVariables false

def LayBad2 (i : Int) (n : Ino) : Prop := i < 0 ∨ 32 ≤ i ∨ ¬ RightP n ∨ n.format ≠ 2

set_option maxRecDepth 20000 in
set_option maxHeartbeats 4000000 in
theorem lay2_bad {w : World} {p : Nat} {D : Nat → Prop} {S : Sh} (h : SheetAt w p D S) (i : Int) {n : Ino} {ev : Value} (hn : n.Ok) (he : HoldsE w ev n.ents) (hbad : LayBad2 i n) :
    Calls Try.prog 57 #[.pointer (some ⟨p, 0, none⟩), .int .i64 i, .agg (inoA n ev)] w fun e w' => e = .returned (.int .i64 1) ∧ ShStep w p D w' S := by
  have hb := InoB.new w hn.len ev
  have HB := Lib.hid hb
  have HNO := Lib.hid hn
  have HSH := Lib.hid h
  have hlen : (inoL n ev).length = 18 := inoL_len hn.len ev
  have HLEN := Lib.hid hlen
  have HRG := Lib.hid (hb.at.range hn.len)
  have c0 := hb.at.c0
  have HBEL : Hid (Below w.heap.size w (w.alloc (.cells (inoA n ev) 25))) := (Below.refl _ _).alloc (Nat.le_refl _) _
  have HM0 : Hid (Mod nob w (w.alloc (.cells (inoA n ev) 25))) := (Mod.refl nob w).alloc _
  have hBs : w.heap.size < (w.alloc (.cells (inoA n ev) 25)).heap.size := by simp
  have HRI : Hid (Calls Try.prog 54 #[.agg (inoL n ev).toArray] (w.alloc (.cells (inoA n ev) 25)) fun e w' => e = .returned (.bool (rightB n)) ∧ Below (w.alloc (.cells (inoA n ev) 25)).heap.size (w.alloc (.cells (inoA n ev) 25)) w') := right_any hn (he.below HBEL.out)
  have HIN : Hid (∀ wx, Calls Try.prog 53 #[.int .i64 i] wx fun e w' => e = .returned (.int .i64 (inoAt i)) ∧ wx = w') := fun wx => inode_any i wx
  have hia : inoAt i = if i < 0 ∨ 32 ≤ i then -1 else 824 + i * 8 := rfl
  have HIA := Lib.hid hia
  clear hb hn he h hlen hia
  by_cases hi : i < 0 ∨ 32 ≤ i
  · have hat : inoAt i = -1 := by rw [HIA.out, if_pos hi]
    rw [hat] at HIN
    clear hat hi
    go_enter Try.func57, Try.ntmps57
    go_wp2_with fail
    refine (HIN.out _).mono ?_
    rintro e w1 ⟨rfl, rfl⟩
    go_wp2_with fail
    go_ret
    exact ⟨rfl, (ShStep.start HSH.out).still HM0.out⟩
  · have hat : inoAt i = 824 + i * 8 := by rw [HIA.out, if_neg hi]
    rw [hat] at HIN
    have hge : ¬ 824 + i * 8 < 0 := by omega
    have hd : decide (824 + i * 8 < 0) = false := by simpa using hge
    have HI := Lib.hid hi
    have hi0 : 0 ≤ i := by omega
    have hi1 : i < 32 := by omega
    clear hat hi
    cases hr : rightB n with
    | false =>
      rw [hr] at HRI
      clear hr
      go_enter Try.func57, Try.ntmps57
      go_wp2_with fail
      refine (HIN.out _).mono ?_
      rintro e w1 ⟨rfl, rfl⟩
      go_wp2_with (first
        | ((refine wpList_unguard (o := ⟨some 15, _, _, _, _, _⟩) (by rfl) ?_; with_reducible refine wpList_load_mid rfl 25 _ rfl w.heap.size 0 rfl (inoL n ev) _ HRG.out Try.underlying25 rfl (by rw [HLEN.out]; exact Try.info18) ?_))
        | (go_at_call 54; refine HRI.out.mono ?_; rintro e w2 ⟨rfl, hb2⟩; have HB2 := Lib.hid hb2; clear hb2))
      go_ret
      exact ⟨rfl, (ShStep.start HSH.out).still (HM0.out.step (mod_of_below HB2.out) (fun _ h => h))⟩
    | true =>
      rw [hr] at HRI
      have hfo : n.format ≠ 2 := by
        rcases hbad with h | h | h | h
        · exact absurd (.inl h) HI.out
        · exact absurd (.inr h) HI.out
        · exact absurd (of_rightB hr) h
        · exact h
      have hfb : (n.format != 2) = true := by simpa using hfo
      clear hr hfo
      go_enter Try.func57, Try.ntmps57
      go_wp2_with fail
      refine (HIN.out _).mono ?_
      rintro e w1 ⟨rfl, rfl⟩
      go_wp2_with (first
        | ((refine wpList_unguard (o := ⟨some 15, _, _, _, _, _⟩) (by rfl) ?_; with_reducible refine wpList_load_mid rfl 25 _ rfl w.heap.size 0 rfl (inoL n ev) _ HRG.out Try.underlying25 rfl (by rw [HLEN.out]; exact Try.info18) ?_))
        | (go_at_call 54; refine HRI.out.mono ?_; rintro e w2 ⟨rfl, hb2⟩; have c0' := hb2.cell (p := ⟨w.heap.size, 0, none⟩) hBs; rw [c0] at c0'; have HB2 := Lib.hid hb2; clear hb2))
      go_ret
      exact ⟨rfl, (ShStep.start HSH.out).still (HM0.out.step (mod_of_below HB2.out) (fun _ h => h))⟩


noncomputable def lay2S (S : Sh) (i : Int) (n : Ino) : Sh := put2S (takeFrom 255 S 1 (need2 n)).1 (824 + i * 8) n (takeFrom 255 S 1 (need2 n)).2

set_option maxRecDepth 20000 in
set_option maxHeartbeats 4000000 in
theorem lay2_ok {w : World} {p : Nat} {D : Nat → Prop} {S : Sh} (h : SheetAt w p D S) (hlen : S.was.length + 5000 < 1099511627776) (i : Int) (hi0 : 0 ≤ i) (hi1 : i < 32) {n : Ino} {ev : Value} (hn : n.Ok) (he : HoldsE w ev n.ents) (hed : n.ents ≠ [] → ∀ g, ev.ownBlock = some g → ¬ D g) (hr : RightP n) (hf : n.format = 2) :
    Calls Try.prog 57 #[.pointer (some ⟨p, 0, none⟩), .int .i64 i, .agg (inoA n ev)] w fun e w' => e = .returned (.int .i64 (if need2 n ≤ freeN S then 0 else 7)) ∧ ShStep w p D w' (if need2 n ≤ freeN S then lay2S S i n else S) := by
  have hb := InoB.new w hn.len ev
  have HB := Lib.hid hb
  have HNO := Lib.hid hn
  have HSH := Lib.hid h
  have HE := Lib.hid he
  have HED := Lib.hid hed
  have HR := Lib.hid hr
  have HSL := Lib.hid hlen
  have hleni : (inoL n ev).length = 18 := inoL_len hn.len ev
  have HLEN := Lib.hid hleni
  have HRG := Lib.hid (hb.at.range hn.len)
  have c0 := hb.at.c0
  rw [hf] at c0
  have HM0 : Hid (Mod nob w (w.alloc (.cells (inoA n ev) 25))) := (Mod.refl nob w).alloc _
  have hBs : w.heap.size < (w.alloc (.cells (inoA n ev) 25)).heap.size := by simp
  have HRI : Hid (Calls Try.prog 54 #[.agg (inoL n ev).toArray] (w.alloc (.cells (inoA n ev) 25)) fun e w' => e = .returned (.bool true) ∧ Below (w.alloc (.cells (inoA n ev) 25)).heap.size (w.alloc (.cells (inoA n ev) 25)) w') := by
    have := right_any hn (he.mod HM0.out (fun _ _ _ h => h))
    rw [rightB_true hr] at this
    exact this
  have HIN : Hid (∀ wx, Calls Try.prog 53 #[.int .i64 i] wx fun e w' => e = .returned (.int .i64 (824 + i * 8)) ∧ wx = w') := by
    intro wx
    have := inode_any i wx
    rw [if_neg (by omega)] at this
    exact this
  have hge : ¬ 824 + i * 8 < 0 := by omega
  have hd : decide (824 + i * 8 < 0) = false := by simpa using hge
  obtain ⟨nd, hnd⟩ : ∃ nd, nd = need2 n := ⟨_, rfl⟩
  have hnd40 : nd ≤ 40 := by rw [hnd]; exact need2_le hr
  have HND := Lib.hid hnd
  have HNEED : Hid (∀ wx, Mod nob w wx → Calls Try.prog 93 #[.agg (inoL n ev).toArray] wx fun e w' => e = .returned (.int .i64 (nd : Nat)) ∧ Below wx.heap.size wx w') := fun wx hm => by
    rw [hnd]
    exact need2_any hn (he.mod hm (fun _ _ _ h => h)) hr
  rw [← hnd]
  have hi2 : 0 ≤ 824 + i * 8 ∧ 824 + i * 8 ≤ 3000 := by omega
  have HI2 := Lib.hid hi2
  clear hb hn h hlen hnd hed hr hf hge hleni he hi2
  go_enter Try.func57, Try.ntmps57
  go_wp2_with fail
  refine (HIN.out _).mono ?_
  rintro e w1 ⟨rfl, rfl⟩
  go_upto_region 4 with (first
    | ((refine wpList_unguard (o := ⟨some 15, _, _, _, _, _⟩) (by rfl) ?_; with_reducible refine wpList_load_mid rfl 25 _ rfl w.heap.size 0 rfl (inoL n ev) _ HRG.out Try.underlying25 rfl (by rw [HLEN.out]; exact Try.info18) ?_))
    | (go_at_call 54; refine HRI.out.mono ?_; rintro e w2 ⟨rfl, hb2⟩; have c0' := hb2.cell (p := ⟨w.heap.size, 0, none⟩) hBs; rw [c0] at c0'; have HB2 := Lib.hid hb2; clear hb2))
  have HM2 : Hid (Mod nob w w2) := HM0.out.step (mod_of_below HB2.out) (fun _ h => h)
  have HI2x : Hid (InoB w2 w.heap.size n ev) := HB.out.mod (mod_of_below HB2.out) (fun h => h)
  have HRG2 := Lib.hid (HI2x.out.at.range HNO.out.len)
  clear c0 c0' HIN HRI HRG HB HB2 hBs
  go_wp2_with (with_reducible refine wpList_load_mid (op := ⟨some 26, _, _, _, _, _⟩) rfl 25 _ rfl w.heap.size 0 rfl (inoL n ev) _ HRG2.out Try.underlying25 rfl (by rw [HLEN.out]; exact Try.info18) ?_)
  refine (HNEED.out _ HM2.out).mono ?_
  rintro e w3 ⟨rfl, hb3⟩
  have HM3 : Hid (Mod nob w w3) := HM2.out.step (mod_of_below hb3) (fun _ h => h)
  have HI3 := Lib.hid (HI2x.out.mod (mod_of_below hb3) (fun h => h))
  clear hb3 HI2x HM2 HRG2 HNEED
  by_cases hfr : nd ≤ freeN S
  · have HFR := Lib.hid hfr
    have htk := take_ok (HSH.out.mod HM3.out (fun _ _ h => h)) (by have := HSL.out; omega) nd hfr
    have hlaw := takeFrom_law 255 S 1 nd (Nat.le_refl _) (by omega) (by rw [← freeN_from]; exact hfr)
    have HLS : Hid (lay2S S i n = put2S (takeFrom 255 S 1 nd).1 (824 + i * 8) n (takeFrom 255 S 1 nd).2) := by unfold Hid lay2S; rw [← HND.out]
    have HXL : Hid ((takeFrom 255 S 1 nd).2.length = nd) := hlaw.1
    have HXB : Hid (∀ b ∈ (takeFrom 255 S 1 nd).2, b < 256) := fun b hb => by have := hlaw.2.1 b hb; omega
    have HXW : Hid ((takeFrom 255 S 1 nd).1.was.length ≤ S.was.length + 9 * 255) := hlaw.2.2.2.2.2
    obtain ⟨T1, hT1⟩ : ∃ T1, T1 = (takeFrom 255 S 1 nd).1 := ⟨_, rfl⟩
    obtain ⟨xs, hxx⟩ : ∃ xs, xs = (takeFrom 255 S 1 nd).2 := ⟨_, rfl⟩
    rw [← hT1, ← hxx] at htk HLS
    rw [← hxx] at HXL HXB
    rw [← hT1] at HXW
    have HTK := Lib.hid htk
    clear htk hlaw hT1 hxx hfr
    go_wp2_with fail
    refine HTK.out.mono ?_
    rintro e w4 ⟨v, rfl, Dk, hs4, ho4, hg4, hD4, hm4⟩
    have HOV : Hid (HoldsN w4 v xs) := holdsN_of_own rfl ho4
    obtain ⟨ta, tc, rfl, t1, t2, -⟩ := own_shape ho4
    have hXl : w.heap.size < w3.heap.size := HI3.out.lt
    have hDX : ¬ D w.heap.size := fun hd => by have := HSH.out.lt _ hd; omega
    have HI4 := Lib.hid (HI3.out.mod hm4 hDX)
    have HRG4 := Lib.hid (HI4.out.at.range HNO.out.len)
    have hev4 : HoldsE w4 ev n.ents := (HE.out.mod HM3.out (fun _ _ _ h => h)).mod hm4 HED.out
    have hedk : n.ents ≠ [] → ∀ g, ev.ownBlock = some g → ¬ Dk g := fun h0 g hg hd => by
      have h1 := HE.out.lt h0 g hg
      rcases hD4 g hd with h | h
      · exact HED.out h0 g hg h
      · omega
    have HPUT := Lib.hid (put2_any hs4 (by have := HSL.out; have := HXW.out; omega) (824 + i * 8) HI2.out HNO.out hev4 HOV.out hedk (fun h0 g hg => hg4 g hg) HXB.out HR.out (by rw [HXL.out]; exact HND.out))
    have HFIN : Hid (∀ w5, ShStep w4 p Dk w5 (put2S T1 (824 + i * 8) n xs) → ShStep w p D w5 (lay2S S i n)) := fun w5 hk => by
      rw [HLS.out]
      have hgd : ∀ b, grow Dk w4 w5 b → grow D w3 w5 b := fun b hb => by
        have h1 := hm4.size
        have h2 := hk.2.size
        rcases hb with hb | hb
        · rcases hD4 b hb with h | h
          · exact .inl h
          · exact .inr ⟨h.1, by omega⟩
        · exact .inr ⟨by omega, hb.2⟩
      have hst : ShStep w3 p D w5 (put2S T1 (824 + i * 8) n xs) := ⟨hk.1.mono hgd (fun b hb => by
        rcases hb with hb | hb
        · have h1 := HSH.out.lt b hb
          have h2 := HM3.out.size
          have h3 := hm4.size
          have h4 := hk.2.size
          omega
        · exact hb.2), hm4.trans (hk.2.mono (fun b _ hb => hD4 b hb))⟩
      exact ShStep.from HSH.out HM3.out hst
    clear ho4 hs4 hg4 hD4 hm4 hev4 hedk HTK hXl hDX
    go_upto_region 7 with (fail)
    go_wp2_with (with_reducible refine wpList_load_mid (op := ⟨some 36, _, _, _, _, _⟩) rfl 25 _ rfl w.heap.size 0 rfl (inoL n ev) _ HRG4.out Try.underlying25 rfl (by rw [HLEN.out]; exact Try.info18) ?_)
    refine HPUT.out.mono ?_
    rintro e w5 ⟨rfl, hk5⟩
    have HK5 := Lib.hid (HFIN.out w5 hk5)
    clear hk5
    go_wp2_with fail
    go_ret
    all_goals first | exact ⟨rfl, HK5.out⟩ | (exfalso; have := HFR.out; omega)
  · have HFR := Lib.hid hfr
    have htk := Lib.hid (take_no (HSH.out.mod HM3.out (fun _ _ h => h)) (nd : Int) (by omega))
    clear hfr
    go_wp2_with fail
    refine htk.out.mono ?_
    rintro e w4 ⟨rfl, rfl⟩
    go_wp2_with fail
    go_ret
    all_goals first | exact ⟨rfl, ShStep.from HSH.out HM3.out (ShStep.start (HSH.out.mod HM3.out (fun _ _ h => h)))⟩ | (exfalso; have := HFR.out; omega)

open Classical in
noncomputable def lay2E (S : Sh) (i : Int) (n : Ino) : Int := if LayBad2 i n then 1 else if need2 n ≤ freeN S then 0 else 7
open Classical in
noncomputable def lay2T (S : Sh) (i : Int) (n : Ino) : Sh := if LayBad2 i n then S else if need2 n ≤ freeN S then lay2S S i n else S

theorem LayBad2.not {i : Int} {n : Ino} (h : ¬ LayBad2 i n) : (0 ≤ i ∧ i < 32) ∧ RightP n ∧ n.format = 2 := by
  unfold LayBad2 at h
  refine ⟨⟨?_, ?_⟩, ?_, ?_⟩
  · omega
  · omega
  · exact Classical.byContradiction fun hc => h (.inr (.inr (.inl hc)))
  · exact Classical.byContradiction fun hc => h (.inr (.inr (.inr hc)))

theorem lay2_any {w : World} {p : Nat} {D : Nat → Prop} {S : Sh} (h : SheetAt w p D S) (hlen : S.was.length + 5000 < 1099511627776) (i : Int) {n : Ino} {ev : Value} (hn : n.Ok) (he : HoldsE w ev n.ents) (hed : n.ents ≠ [] → ∀ g, ev.ownBlock = some g → ¬ D g) :
    Calls Try.prog 57 #[.pointer (some ⟨p, 0, none⟩), .int .i64 i, .agg (inoA n ev)] w fun e w' => e = .returned (.int .i64 (lay2E S i n)) ∧ ShStep w p D w' (lay2T S i n) := by
  unfold lay2E lay2T
  by_cases hb : LayBad2 i n
  · rw [if_pos hb, if_pos hb]
    exact lay2_bad h i hn he hb
  · rw [if_neg hb, if_neg hb]
    obtain ⟨h1, h2, h3⟩ := LayBad2.not hb
    exact lay2_ok h hlen i h1.1 h1.2 hn he hed h2 h3
end Go.Proofs.Ytlopdbhjdijlmaa
