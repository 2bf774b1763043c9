/-
  check.blocks: a contract. No condition.
  check.tails: a contract. No condition.
  check.Sound: a contract. No condition.
  What is got hangs on the words behind the bits: plain lemmas. Nothing is assumed.
  imagolaw10.awake: a contract. No condition.
-/
import Derived.Test.YtlopdbhjdijlmaaQBelGot
import Derived.Test.YtlopdbhjdijlmaaQAll8
import Derived.Test.YtlopdbhjdijlmaaQPallocM
import Derived.Test.YtlopdbhjdijlmaaQPackM
import Derived.Test.YtlopdbhjdijlmaaQRd1Some
import Derived.Test.YtlopdbhjdijlmaaQPutGet2
import Derived.Test.YtlopdbhjdijlmaaQInoM
import Derived.Test.YtlopdbhjdijlmaaQFew6

namespace Go.Proofs.Ytlopdbhjdijlmaa
open Go.ChangeShapes Go.WideShapes Go.ChangeAt Go.RowKit
set_option linter.unusedSimpArgs false
set_option linter.unusedVariables false

def BlkP (S : Sh) (n : Nat) : Prop := ∀ b, b < n → ¬ metN S b 32 > 1 ∧ decide (metN S b 32 = 1) = bitB S b
open Classical in
noncomputable def blkB (S : Sh) : Bool := decide (BlkP S 256 ∧ metN S 0 32 = 0)
open Classical in
theorem blkB_true {S : Sh} (h : BlkP S 256 ∧ metN S 0 32 = 0) : blkB S = true := by unfold blkB; exact decide_eq_true h
open Classical in
theorem blkB_false {S : Sh} (h : ¬ (BlkP S 256 ∧ metN S 0 32 = 0)) : blkB S = false := by unfold blkB; exact decide_eq_false h

set_option maxRecDepth 20000 in
set_option maxHeartbeats 4000000 in
theorem blocks10 {w : World} {p : Nat} {D : Nat → Prop} {S : Sh} (h : SheetAt w p D S) :
    Calls Try.prog 73 #[.pointer (some ⟨p, 0, none⟩)] w fun e w' => e = .returned (.bool (blkB S)) ∧ Below w.heap.size w w' := by
  have hok := h.ok
  have HOK := Lib.hid hok
  have HAL : Hid (∀ wx, Mod nob w wx → ∀ k : Nat, Calls Try.prog 28 #[.pointer (some ⟨p, 0, none⟩), .int .i64 (k : Nat)] wx fun e w' => ∃ v, e = .returned v ∧ HoldsN w' v (allI S (k : Nat)) ∧ (∀ g, v.ownBlock = some g → wx.heap.size ≤ g) ∧ Below wx.heap.size wx w') := fun wx hm k => all_ino (h.mod hm (fun _ _ h => h)) (k : Nat)
  have HUS : Hid (∀ wx, Mod nob w wx → ∀ b : Nat, b < 256 → Calls Try.prog 52 #[.pointer (some ⟨p, 0, none⟩), .int .i64 (b : Nat)] wx fun e w' => e = .returned (.bool (bitB S b)) ∧ wx = w') := fun wx hm b hb => used_any (h.mod hm (fun _ _ h => h)) b hb
  have HLE : Hid (∀ b, metN S b 32 ≤ 1696) := fun b => metN_le hok b 32
  obtain ⟨bb, hbb⟩ : ∃ b, b = blkB S := ⟨_, rfl⟩
  rw [← hbb]
  have HBB := Lib.hid hbb
  have HB0 : Hid (IntsB (w.alloc (.cells Try.zeroCells140 140)) w.heap.size (fun _ => 0)) := IntsB.new w
  have HM0 : Hid (Mod nob w (w.alloc (.cells Try.zeroCells140 140))) := (Mod.refl nob w).alloc _
  clear h hok hbb
  go_enter Try.func73, Try.ntmps73
  go_upto_region 2 with (fail)
  generalize w.alloc (.cells Try.zeroCells140 140) = w0 at *
  obtain ⟨B, hB⟩ : ∃ B, B = w.heap.size := ⟨_, rfl⟩
  rw [← hB] at HB0 ⊢
  have HBE := Lib.hid hB
  clear hB
  go_wp2_with fail
  go_loopg [9] 32 (fun gk iv wr => ∃ (k : Nat) (c : Nat → Nat), k + gk = 32 ∧ iv = .int .i64 (k : Nat) ∧ Hid (∀ b, b < 256 → c b = metN S b k) ∧ Hid (IntsB wr B c) ∧ Hid (Mod nob w wr))
  case atStart => exact ⟨0, _, by omega, rfl, (fun b hb => rfl), HB0.out, HM0.out⟩
  case round =>
    obtain ⟨k, c, hk, rfl, HCC, HC, HM⟩ := hrel
    clear HB0 HM0
    by_cases hlt : k < 32
    · have hki : (k : Int) < 32 := by omega
      have HA := Lib.hid (HAL.out wr HM.out k)
      have hlw := allI_law HOK.out (k : Nat)
      have hmt := fun b => metN_le HOK.out b k
      obtain ⟨l, hl⟩ : ∃ l, l = allI S (k : Nat) := ⟨_, rfl⟩
      rw [← hl] at HA hlw
      obtain ⟨hl1, hl2⟩ := hlw
      have HL1 := Lib.hid hl1
      have HLA := Lib.hid hl
      have HMT := Lib.hid hmt
      obtain ⟨L, hL⟩ : ∃ L, L = l.length := ⟨_, rfl⟩
      rw [← hL] at hl2
      have HLL := Lib.hid hL
      clear hl1 hl hmt hL
      go_wp2_with (go_at_call 28; (with_reducible refine HA.out.mono ?_); (rintro e w5 ⟨v, rfl, hn, hown, hb5⟩); (have HN := Lib.hid hn); (have HOW := Lib.hid hown); (have HX5 : Hid (Mod nob wr w5) := mod_of_below hb5); (obtain ⟨ea, ec, rfl, hcap, hcm, -, -⟩ := hn); (rw [← HLL.out] at hcap ⊢); (clear hown hb5))
      have HC5 : Hid (IntsB w5 B c) := HC.out.mod HX5.out (fun h => h)
      have HM5 : Hid (Mod nob w w5) := HM.out.step HX5.out (fun _ h => h)
      have HAP : Hid (∀ g, (Value.slice ea L ec).ownBlock = some g → g ≠ B) := fun g hg e => by
        have h1 := HOW.out g (by rw [← HLL.out]; exact hg)
        have h2 := HC.out
        obtain ⟨cs, hh, -⟩ := h2
        have h3 := lt_of_block hh
        omega
      clear HX5 HC HM HOW HA
      go_loopg [16] L (fun gk iv wr => ∃ (j : Nat) (d : Nat → Nat), j + gk = L ∧ iv = .int .i64 (j : Nat) ∧ Hid (∀ b, b < 256 → d b = metN S b k + cntX l b j) ∧ Hid (IntsB wr B d) ∧ Hid (HoldsN wr (.slice ea L ec) l) ∧ Hid (Mod nob w wr))
      case atStart => exact ⟨0, c, by omega, rfl, (fun b hb => HCC.out b hb), HC5.out, by rw [HLL.out]; exact HN.out, HM5.out⟩
      case round =>
        obtain ⟨j, d, hj, rfl, HDC, HDI, HHI, HMW⟩ := hrel
        clear HC5 HM5 HN
        by_cases hltj : j < L
        · have hji : (j : Int) < (L : Int) := by omega
          obtain ⟨ea', ec', e, -, -, -, hcells⟩ := HHI.out
          obtain ⟨g, o, hea, d1⟩ := hcells j (by rw [← HLL.out]; exact hltj)
          rw [← HLL.out] at e
          simp only [Value.slice.injEq] at e
          obtain ⟨rfl, -, rfl⟩ := e
          subst hea
          have hmem : l.getD j 0 ∈ l := by
            rw [List.getD_eq_getElem?_getD, List.getElem?_eq_getElem (by rw [← HLL.out]; exact hltj)]
            exact List.getElem_mem _
          have hq := HL1.out _ hmem
          have hd1 := HDC.out _ hq
          obtain ⟨q, hqq⟩ : ∃ q, q = l.getD j 0 := ⟨_, rfl⟩
          rw [← hqq] at d1 hq hd1
          have HQ := Lib.hid hqq
          have hd2 := HMT.out q
          have hd3 := cntX_le l q j
          have cd := HDI.out.cell q hq
          have fd := HDI.out.frozen q
          obtain ⟨dv, hdv⟩ : ∃ dv, dv = d q := ⟨_, rfl⟩
          rw [← hdv] at cd hd1
          have hdv2 : dv ≤ 2000 := by omega
          have HDN := Lib.hid (HDI.out.set q (dv + 1))
          have HMS : Hid (Mod (fun y => y = B) wr (wr.setCell ⟨B, q, none⟩ (.int .i64 ((dv + 1 : Nat) : Int)))) := (Mod.refl (fun y => y = B) wr).setCell (a := ⟨B, q, none⟩) (.inl rfl) _
          have HMN : Hid (Mod nob w (wr.setCell ⟨B, q, none⟩ (.int .i64 ((dv + 1 : Nat) : Int)))) := HMW.out.setCell (.inr (by rw [HBE.out]; exact Nat.le_refl _)) _
          have HHN : Hid (HoldsN (wr.setCell ⟨B, q, none⟩ (.int .i64 ((dv + 1 : Nat) : Int))) (.slice (some ⟨g, o, none⟩) L ec) l) := HHI.out.mod HMS.out (fun _ g hg e => HAP.out g hg e)
          have HDD : Hid (∀ b, b < 256 → (fun y => if y = q then dv + 1 else d y) b = metN S b k + cntX l b (j + 1)) := fun b hb => by
            have h1 := HDC.out b hb
            have h2 : cntX l b (j + 1) = cntX l b j + if l.getD j 0 = b then 1 else 0 := rfl
            rw [h2, ← HQ.out]
            show (if b = q then dv + 1 else d b) = _
            by_cases e : b = q
            · subst e
              rw [if_pos rfl, if_pos rfl]
              omega
            · rw [if_neg e, if_neg (fun h => e h.symm)]
              omega
          have hwr : (dv : Int) + 1 = ((dv + 1 : Nat) : Int) := by omega
          have HWR := Lib.hid hwr
          have hqi : (q : Int) < 256 := by omega
          clear hcells hmem hqq hd1 hd2 hd3 hdv HMS hwr
          go_upto_region 8 with (fail)
          go_upto_region 9 with (fail)
          first
            | rw [HWR.out]
            | skip
          generalize wr.setCell ⟨B, q, none⟩ (.int .i64 ((dv + 1 : Nat) : Int)) = w9 at *
          clear cd fd d1
          go_wp2_with fail
          go_roundg (gk - 1)
          case measure => omega
          case rel => exact ⟨j + 1, _, by omega, by go_num, HDD.out, HDN.out, HHN.out, HMN.out⟩
        · obtain rfl : j = L := by omega
          have hji : ¬ (j : Int) < (j : Int) := by omega
          have HCN : Hid (∀ b, b < 256 → d b = metN S b (k + 1)) := fun b hb => by
            rw [HDC.out b hb, HLL.out, HLA.out]; rfl
          go_wp2_with fail
          go_roundg (32 - k - 1)
          case measure => omega
          case rel => exact ⟨k + 1, d, by omega, by go_num, HCN.out, HDI.out, HMW.out⟩
    · obtain rfl : k = 32 := by omega
      have hki : ¬ ((32 : Nat) : Int) < 32 := by omega
      obtain ⟨ct, hct⟩ : ∃ ct : Nat → Nat, ct = fun b => metN S b 32 := ⟨_, rfl⟩
      have HC2 : Hid (IntsB wr B ct) := HC.out.congr (fun b hb => by rw [HCC.out b hb, hct])
      have HCT : Hid (∀ b, ct b = metN S b 32) := fun b => by rw [hct]
      have HRA := Lib.hid HC2.out.range
      have HISL : Hid ((Try.prog.info? 140).map (·.size) = some (intsLB ct).length) := by unfold Hid; rw [intsLB_len]; exact Try.info256
      have HU79 := Lib.hid Try.underlying140
      clear hct HC HCC HAL
      obtain ⟨AT, hAT⟩ : ∃ v, v = Value.agg (intsLB ct).toArray := ⟨_, rfl⟩
      have HIDX : Hid (∀ k, k < 256 → ∀ w, (Instr.index 140 AT (.int .i64 (k : Nat))).run Try.prog w = .ok (.int .i64 (ct k : Nat)) w) := fun k hk w => by rw [hAT]; exact index_met _ k hk w
      go_wp2_with (with_reducible refine wpList_load_mid (op := ⟨some 27, _, _, _, _, _⟩) rfl 140 _ rfl B 0 rfl (intsLB ct) _ HRA.out HU79.out rfl HISL.out ?_)
      rw [← hAT]
      clear hAT
      obtain ⟨wq, hwq⟩ : ∃ y : World, y = wr := ⟨_, rfl⟩
      rw [← hwq] at HC2 HM HRA ⊢
      clear hwq
      go_loopg [28] 256 (fun gk iv wr => ∃ k : Nat, k + gk = 256 ∧ iv = .int .i64 (k : Nat) ∧ Hid (BlkP S k) ∧ wr = wq)
      case atStart => exact ⟨0, by omega, rfl, (fun j h => by omega), rfl⟩
      case round =>
        obtain ⟨b, hb, rfl, HBP, rfl⟩ := hrel
        by_cases hltb : b < 256
        · have hbi : (b : Int) < 256 := by omega
          have HIB := Lib.hid (HIDX.out b hltb wr)
          have HUB := Lib.hid (HUS.out wr HM.out b hltb)
          have hcle := HLE.out b
          rw [← HCT.out b] at hcle
          have HCB := Lib.hid (HCT.out b)
          obtain ⟨cv, hcv⟩ : ∃ c, c = ct b := ⟨_, rfl⟩
          rw [← hcv] at HIB hcle HCB
          obtain ⟨ub, hub⟩ : ∃ u, u = bitB S b := ⟨_, rfl⟩
          rw [← hub] at HUB
          have HUE := Lib.hid hub
          clear hcv hub
          go_upto_region 14 with (with_reducible refine wpList_index_r (o := ⟨some 31, _, _, _, _, _⟩) rfl 140 (.tmp 27) (.tmp 28) rfl AT (.int .i64 (b : Nat)) rfl rfl HIB.out ?_)
          by_cases h1 : (1 : Int) < (cv : Int)
          · have HBF : Hid (bb = false) := by
              unfold Hid
              rw [HBB.out]
              refine blkB_false (fun hp => ?_)
              exact (hp.1 b hltb).1 (by rw [← HCB.out]; omega)
            go_wp2_with fail
            go_ret
            exact ⟨by rw [HBF.out]; rfl, nob_mod_below HM.out⟩
          · have hd1 : decide ((1 : Int) < (cv : Int)) = false := decide_eq_false h1
            by_cases h2 : (cv : Int) = 1
            · have hb2 : ((cv : Int) == 1) = true := by simpa using h2
              have hn2 : cv = 1 := by omega
              cases ub with
              | true =>
                have HBN : Hid (BlkP S (b + 1)) := fun j hj => by
                  by_cases e : j = b
                  · subst e
                    refine ⟨by rw [← HCB.out]; omega, ?_⟩
                    rw [← HCB.out, ← HUE.out]
                    exact decide_eq_true hn2
                  · exact HBP.out j (by omega)
                go_wp2_with (go_at_call 52; (with_reducible refine HUB.out.mono ?_); (rintro e w5 ⟨rfl, rfl⟩))
                go_roundg (gk - 1)
                case measure => omega
                case rel => exact ⟨b + 1, by omega, by go_num, HBN.out, rfl⟩
              | false =>
                have HBF : Hid (bb = false) := by
                  unfold Hid
                  rw [HBB.out]
                  refine blkB_false (fun hp => ?_)
                  have h3 := (hp.1 b hltb).2
                  rw [← HCB.out, ← HUE.out] at h3
                  exact absurd hn2 (of_decide_eq_false h3)
                go_wp2_with (go_at_call 52; (with_reducible refine HUB.out.mono ?_); (rintro e w5 ⟨rfl, rfl⟩))
                go_ret
                exact ⟨by rw [HBF.out]; rfl, nob_mod_below HM.out⟩
            · have hb2 : ((cv : Int) == 1) = false := by simpa using h2
              have hn2 : ¬ cv = 1 := by omega
              cases ub with
              | true =>
                have HBF : Hid (bb = false) := by
                  unfold Hid
                  rw [HBB.out]
                  refine blkB_false (fun hp => ?_)
                  have h3 := (hp.1 b hltb).2
                  rw [← HCB.out, ← HUE.out] at h3
                  exact absurd (of_decide_eq_true h3) hn2
                go_wp2_with (go_at_call 52; (with_reducible refine HUB.out.mono ?_); (rintro e w5 ⟨rfl, rfl⟩))
                go_ret
                exact ⟨by rw [HBF.out]; rfl, nob_mod_below HM.out⟩
              | false =>
                have HBN : Hid (BlkP S (b + 1)) := fun j hj => by
                  by_cases e : j = b
                  · subst e
                    refine ⟨by rw [← HCB.out]; omega, ?_⟩
                    rw [← HCB.out, ← HUE.out]
                    exact decide_eq_false hn2
                  · exact HBP.out j (by omega)
                go_wp2_with (go_at_call 52; (with_reducible refine HUB.out.mono ?_); (rintro e w5 ⟨rfl, rfl⟩))
                go_roundg (gk - 1)
                case measure => omega
                case rel => exact ⟨b + 1, by omega, by go_num, HBN.out, rfl⟩
        · obtain rfl : b = 256 := by omega
          have hbi : ¬ ((256 : Nat) : Int) < 256 := by omega
          have cd := HC2.out.cell 0 (by omega)
          have HC0 := Lib.hid (HCT.out 0)
          obtain ⟨c0, hc0⟩ : ∃ c, c = ct 0 := ⟨_, rfl⟩
          rw [← hc0] at cd HC0
          clear hc0
          by_cases h0 : c0 = 0
          · subst h0
            have HBT : Hid (bb = true) := by unfold Hid; rw [HBB.out]; exact blkB_true ⟨HBP.out, HC0.out.symm⟩
            go_wp2_with fail
            go_ret
            exact ⟨by rw [HBT.out]; rfl, nob_mod_below HM.out⟩
          · have HBF : Hid (bb = false) := by
              unfold Hid
              rw [HBB.out]
              exact blkB_false (fun hp => h0 (HC0.out.trans hp.2))
            have hb0 : ((c0 : Int) == 0) = false := by
              have : ¬ (c0 : Int) = 0 := by omega
              simpa using this
            go_wp2_with fail
            go_ret
            exact ⟨by rw [HBF.out]; first | rfl | simp [h0], nob_mod_below HM.out⟩
end Go.Proofs.Ytlopdbhjdijlmaa

namespace Go.Proofs.Ytlopdbhjdijlmaa
open Go.ChangeShapes Go.WideShapes Go.ChangeAt Go.RowKit
set_option linter.unusedSimpArgs false
set_option linter.unusedVariables false

/-- The bytes behind a file's size, in the block where it ends, are 0. -/
def TlB (S : Sh) (b : Int) (i : Nat) : Nat := PackM.byteAt (S.get (1080 + b * 8 + ((i / 8 : Nat) : Int))).toNat (i % 8)
def TlI (S : Sh) (n : Ino) : Prop := n.kind = 1 → n.size.toNat / 64 < 13 → n.bl.getD (n.size.toNat / 64) 0 ≠ 0 → ∀ j : Nat, n.size.toNat % 64 ≤ j → j < 64 → TlB S (n.bl.getD (n.size.toNat / 64) 0) j = 0
def TlP (S : Sh) (n : Nat) : Prop := ∀ k, k < n → TlI S (gotT S k)
open Classical in
noncomputable def tlB (S : Sh) : Bool := decide (TlP S 32)
open Classical in
theorem tlB_true {S : Sh} (h : TlP S 32) : tlB S = true := by unfold tlB; exact decide_eq_true h
open Classical in
theorem tlB_false {S : Sh} (h : ¬ TlP S 32) : tlB S = false := by unfold tlB; exact decide_eq_false h
theorem got_file {S : Sh} (hS : S.Ok) {k : Nat} (hk : k < 32) : (∃ sz : Nat, (gotT S k).size = (sz : Int) ∧ sz ≤ 832) ∧ ∀ j, j < 13 → ∃ b : Nat, (gotT S k).bl.getD j 0 = (b : Int) ∧ b < 256 := by
  rcases got_cases hS hk with ⟨-, h⟩ | ⟨xs, -, -, hr, -⟩
  · rw [h]
    refine ⟨⟨0, rfl, by omega⟩, fun j hj => ⟨0, ?_, by omega⟩⟩
    show (List.replicate 13 (0 : Int)).getD j 0 = 0
    rw [List.getD_eq_getElem?_getD, List.getElem?_replicate]
    split <;> rfl
  · rcases hr.2.2.2 with ⟨-, hf⟩ | ⟨-, hd⟩
    · obtain ⟨h1, h2, h3, -⟩ := hf
      refine ⟨⟨(gotT S k).size.toNat, by omega, by omega⟩, fun j hj => ?_⟩
      have := (h1 j hj).1
      exact ⟨((gotT S k).bl.getD j 0).toNat, by omega, by omega⟩
    · obtain ⟨-, h2, h3, h4⟩ := hd
      refine ⟨⟨(gotT S k).ents.length, h3, by omega⟩, fun j hj => ⟨0, h4 j hj, by omega⟩⟩
theorem byteAt_lt (x n : Nat) : PackM.byteAt x n < 256 := Nat.mod_lt _ (by decide)
theorem bytes_get (x i : Nat) (hi : i < 8) : (#[Value.int IntKind.u8 (PackM.byteAt x 0 : Nat), Value.int IntKind.u8 (PackM.byteAt x 1 : Nat), Value.int IntKind.u8 (PackM.byteAt x 2 : Nat), Value.int IntKind.u8 (PackM.byteAt x 3 : Nat), Value.int IntKind.u8 (PackM.byteAt x 4 : Nat), Value.int IntKind.u8 (PackM.byteAt x 5 : Nat), Value.int IntKind.u8 (PackM.byteAt x 6 : Nat), Value.int IntKind.u8 (PackM.byteAt x 7 : Nat)] : Array Value)[i]? = some (.int .u8 (PackM.byteAt x i : Nat)) := by
  rcases (show i = 0 ∨ i = 1 ∨ i = 2 ∨ i = 3 ∨ i = 4 ∨ i = 5 ∨ i = 6 ∨ i = 7 by omega) with e | e | e | e | e | e | e | e <;> subst e <;> rfl
theorem index_byte (x i : Nat) (hi : i < 8) (w : World) :
    (Instr.index 141 (.agg #[Value.int IntKind.u8 (PackM.byteAt x 0 : Nat), Value.int IntKind.u8 (PackM.byteAt x 1 : Nat), Value.int IntKind.u8 (PackM.byteAt x 2 : Nat), Value.int IntKind.u8 (PackM.byteAt x 3 : Nat), Value.int IntKind.u8 (PackM.byteAt x 4 : Nat), Value.int IntKind.u8 (PackM.byteAt x 5 : Nat), Value.int IntKind.u8 (PackM.byteAt x 6 : Nat), Value.int IntKind.u8 (PackM.byteAt x 7 : Nat)]) (.int .i64 (i : Nat))).run Try.prog w = .ok (.int .u8 (PackM.byteAt x i : Nat)) w :=
  run_index_one Try.underlying141 Try.isAgg5 (by kernel_rfl) _ _ i hi (bytes_get x i hi) w

set_option maxRecDepth 20000 in
set_option maxHeartbeats 4000000 in
theorem tails10 {w : World} {p : Nat} {D : Nat → Prop} {S : Sh} (h : SheetAt w p D S) :
    Calls Try.prog 74 #[.pointer (some ⟨p, 0, none⟩)] w fun e w' => e = .returned (.bool (tlB S)) ∧ Below w.heap.size w w' := by
  have hok := h.ok
  have HOK := Lib.hid hok
  have HAL := Lib.hid (all10 h)
  have HGE : Hid (∀ wx, Mod nob w wx → ∀ i : Int, Calls Try.prog 37 #[.pointer (some ⟨p, 0, none⟩), .int .i64 i] wx fun e w' => e = .returned (.int .u64 (S.get i)) ∧ wx = w') := fun wx hm i => sheet_get (h.mod hm (fun _ _ h => h)) i
  obtain ⟨bb, hbb⟩ : ∃ b, b = tlB S := ⟨_, rfl⟩
  rw [← hbb]
  have HBB := Lib.hid hbb
  clear h hok hbb
  go_enter Try.func74, Try.ntmps74
  go_wp2_with fail
  refine HAL.out.mono ?_
  rintro e w1 ⟨ev, rfl, hh, -, hb1⟩
  have HH := Lib.hid hh
  have HM1 : Hid (Mod nob w w1) := mod_of_below hb1
  obtain ⟨AT, hAT⟩ : ∃ v, v = Value.agg (tabL (gotT S) ev).toArray := ⟨_, rfl⟩
  have HIDX : Hid (∀ k, k < 32 → ∀ w, (Instr.index 43 AT (.int .i64 (k : Nat))).run Try.prog w = .ok (.agg (inoL (gotT S k) (ev k)).toArray) w) := fun k hk w => by rw [hAT]; exact index_ino10 _ _ (fun j hj => got_len HOK.out hj) k hk w
  rw [← hAT]
  clear hh hb1 HAL hAT
  go_wp2_with fail
  go_loopg [9] 32 (fun gk iv wr => ∃ k : Nat, k + gk = 32 ∧ iv = .int .i64 (k : Nat) ∧ Hid (TlP S k) ∧ Hid (Mod nob w wr))
  case atStart => exact ⟨0, by omega, rfl, (fun j h => by omega), HM1.out⟩
  case round =>
    obtain ⟨k, hk, rfl, HRP, HM⟩ := hrel
    clear HM1
    by_cases hlt : k < 32
    · have hki : (k : Int) < 32 := by omega
      have HIK := Lib.hid (HIDX.out k hlt wr)
      have hl13 := got_len HOK.out hlt
      obtain ⟨⟨sz, hsz, hsz2⟩, hbl⟩ := got_file HOK.out hlt
      have hv1 : (ev k).oneCell' = true := by obtain ⟨a, c, e, -⟩ := HH.out k hlt; rw [e]; rfl
      obtain ⟨m, hm⟩ : ∃ m, m = gotT S k := ⟨_, rfl⟩
      obtain ⟨v, hv⟩ : ∃ v, v = ev k := ⟨_, rfl⟩
      rw [← hm, ← hv] at HIK
      rw [← hm] at hl13 hsz hbl
      rw [← hv] at hv1
      have HMG := Lib.hid hm
      have HL13 := Lib.hid hl13
      have HV1 := Lib.hid hv1
      have HBL := Lib.hid hbl
      clear hm hv hl13 hv1 hbl
      have hszA : (inoL m v).toArray.size = 18 := by rw [List.size_toArray]; exact inoL_len HL13.out _
      have HISZ : Hid ((Try.prog.info? 25).map (·.size) = some (inoL m v).toArray.size) := by unfold Hid; rw [hszA]; exact Try.info18
      have HONE : Hid ((inoL m v).toArray.all (·.oneCell') = true) := all_oneCell_toArray (inoL_one HV1.out)
      have HTH : Hid ((wr.alloc (.cells z18 25)).there wr.heap.size 0 (inoL m v).toArray.size) := by unfold Hid; rw [hszA]; exact ino_there wr _
      have HROW := Lib.hid (ino_row wr 25 (inoL m v) (inoL_len HL13.out _))
      clear hszA
      go_upto_region 4 with (first
        | (with_reducible refine wpList_index_r (o := ⟨some 11, _, _, _, _, _⟩) rfl 43 (.tmp 8) (.tmp 9) rfl AT (.int .i64 (k : Nat)) rfl rfl HIK.out ?_)
        | (with_reducible refine wpList_store_mid (op := ⟨none, _, _, _, _, _⟩) rfl 25 _ _ rfl wr.heap.size 0 (inoL m v).toArray rfl rfl HTH.out HISZ.out HONE.out ?_))
      try simp only [Act.put]
      have HIX : Hid (InoB ((wr.alloc (.cells z18 25)).setCells wr.heap.size 0 (inoL m v)) wr.heap.size m v) := ⟨HROW.out.1, HL13.out⟩
      have HMX : Hid (Mod nob wr ((wr.alloc (.cells z18 25)).setCells wr.heap.size 0 (inoL m v))) := mod_of_below HROW.out.2
      clear HROW HTH HISZ HONE
      generalize (wr.alloc (.cells z18 25)).setCells wr.heap.size 0 (inoL m v) = w5 at *
      obtain ⟨X, hX⟩ : ∃ X, X = wr.heap.size := ⟨_, rfl⟩
      rw [← hX] at HIX ⊢
      clear hX
      have c1 := HIX.out.at.c1
      have c3 := HIX.out.at.c3
      rw [hsz] at c3
      have HM5 : Hid (Mod nob w w5) := HM.out.step HMX.out (fun _ h => h)
      have HLN : Hid (∀ j, j < k + 1 → j ≠ k → TlI S (gotT S j)) := fun j hj hn => HRP.out j (by omega)
      have HSZ : Hid ((gotT S k).size = (sz : Int)) := by unfold Hid; rw [← HMG.out]; exact hsz
      obtain ⟨K, hK⟩ : ∃ K, K = sz / 64 := ⟨_, rfl⟩
      obtain ⟨r0, hr0⟩ : ∃ r, r = sz % 64 := ⟨_, rfl⟩
      have HQ : Hid ((sz : Int) / 64 = (K : Int)) := by unfold Hid; omega
      have HQT : Hid ((sz : Int).tdiv 64 = (K : Int)) := by unfold Hid; rw [Int.tdiv_eq_ediv_of_nonneg (by omega)]; omega
      have HR : Hid ((sz : Int) % 64 = (r0 : Int)) := by unfold Hid; omega
      have HRT : Hid ((sz : Int).tmod 64 = (r0 : Int)) := by unfold Hid; rw [Int.tmod_eq_emod_of_nonneg (by omega)]; omega
      have hK2 : K ≤ 13 := by omega
      have hr64 : r0 < 64 := by omega
      have HK := Lib.hid hK
      have HR0 := Lib.hid hr0
      obtain ⟨ki, hki2⟩ : ∃ x, x = m.kind := ⟨_, rfl⟩
      rw [← hki2] at c1
      have HKI := Lib.hid (hki2.trans (congrArg Ino.kind HMG.out))
      clear HM HMX HIK hsz hK hr0 hki2 HRP
      have HTI : Hid ((ki = 1 → K < 13 → m.bl.getD K 0 ≠ 0 → ∀ j : Nat, r0 ≤ j → j < 64 → TlB S (m.bl.getD K 0) j = 0) ↔ TlI S (gotT S k)) := by
        unfold Hid TlI
        rw [HSZ.out, Int.toNat_natCast, HKI.out, HMG.out, HK.out, HR0.out]
      go_upto_region 5 with (fail)
      rw [HQ.out]
      by_cases h1 : ki = 1
      · subst h1
        have hb1 : ((1 : Int) != 1) = false := by decide
        by_cases h13 : K < 13
        · have hk13 : ¬ (13 : Int) ≤ (K : Int) := by omega
          obtain ⟨b, hb, hb256⟩ := HBL.out K h13
          have bc : w5.cell? ⟨X, 4 + K, none⟩ = some (.int .i64 (b : Int)) := by
            have := HIX.out.at.bl K h13
            rw [hb, Nat.zero_add] at this
            exact this
          by_cases h0 : b = 0
          · subst h0
            have HN : Hid (TlP S (k + 1)) := fun j hj => by
              by_cases e : j = k
              · subst e
                refine HTI.out.1 (fun _ _ h3 => absurd hb h3)
              · exact HLN.out j hj e
            rw [show ((0 : Nat) : Int) = 0 from rfl] at bc
            clear HTI hb
            go_wp2_with fail
            go_roundg (gk - 1)
            case measure => omega
            case rel => exact ⟨k + 1, by omega, by go_num, HN.out, HM5.out⟩
          · have hbi : ¬ (b : Int) = 0 := by omega
            have hb0 : (((b : Nat) : Int) == 0) = false := by simpa using h0
            have HBB2 : Hid (m.bl.getD K 0 = (b : Int)) := hb
            have HT2 : Hid ((∀ j : Nat, r0 ≤ j → j < 64 → TlB S (b : Int) j = 0) ↔ TlI S (gotT S k)) := by
              unfold Hid
              rw [← HTI.out, hb]
              exact ⟨fun h _ _ _ => h, fun h => h rfl h13 hbi⟩
            clear HTI hb
            go_upto_region 6 with (fail)
            go_upto_region 7 with (fail)
            rw [HR.out]
            go_loopg [6] (64 - r0) (fun gk iv wr => ∃ i : Nat, i + gk = 64 ∧ r0 ≤ i ∧ iv = .int .i64 (i : Nat) ∧ Hid (∀ j : Nat, r0 ≤ j → j < i → TlB S (b : Int) j = 0) ∧ Hid (InoB wr X m v) ∧ Hid (Mod nob w wr))
            case atStart => exact ⟨r0, by omega, by omega, rfl, (fun j h1 h2 => by omega), HIX.out, HM5.out⟩
            case round =>
              obtain ⟨i, hi, hri, rfl, HZ, HI, HMI⟩ := hrel
              clear HM5 HIX c1 c3 bc HQ HQT HR HRT
              by_cases hlti : i < 64
              · have hii : (i : Int) < 64 := by omega
                have bc : wr.cell? ⟨X, 4 + K, none⟩ = some (.int .i64 (b : Int)) := by
                  have := HI.out.at.bl K h13
                  rw [HBB2.out, Nat.zero_add] at this
                  exact this
                have hbk : (if (b : Int) < 0 ∨ 256 ≤ (b : Int) then (-1 : Int) else 1080 + (b : Int) * 8) = 1080 + (b : Int) * 8 := if_neg (by omega)
                have HBK := Lib.hid hbk
                have hx := HOK.out.get (1080 + (b : Int) * 8 + ((i / 8 : Nat) : Int))
                obtain ⟨x, hxe⟩ : ∃ x : Nat, S.get (1080 + (b : Int) * 8 + ((i / 8 : Nat) : Int)) = (x : Int) := ⟨(S.get (1080 + (b : Int) * 8 + ((i / 8 : Nat) : Int))).toNat, by omega⟩
                have hxl : x < 18446744073709551616 := by omega
                have HXL := Lib.hid hxl
                have HTB : Hid (TlB S (b : Int) i = PackM.byteAt x (i % 8)) := by unfold Hid TlB; rw [hxe, Int.toNat_natCast]
                have HGB := Lib.hid (HGE.out wr HMI.out (1080 + (b : Int) * 8 + ((i / 8 : Nat) : Int)))
                rw [hxe] at HGB
                have HQ8 : Hid ((i : Int) / 8 = ((i / 8 : Nat) : Int)) := by unfold Hid; omega
                have HR8 : Hid ((i : Int) % 8 = ((i % 8 : Nat) : Int)) := by unfold Hid; omega
                obtain ⟨AG, hby, hib⟩ : ∃ AG : Value, (∀ w, Calls Try.prog 104 #[.int .u64 x] w fun e w' => e = .returned AG ∧ Below w.heap.size w w') ∧ ∀ w, (Instr.index 141 AG (.int .i64 ((i % 8 : Nat) : Int))).run Try.prog w = .ok (.int .u8 (PackM.byteAt x (i % 8) : Nat)) w := ⟨_, bytes_any x HXL.out, index_byte x (i % 8) (Nat.mod_lt _ (by decide))⟩
                have HBY := Lib.hid hby
                have HIB := Lib.hid hib
                clear hby hib
                clear hbk hx hxe hxl
                obtain ⟨bv, hbv⟩ : ∃ bv, bv = PackM.byteAt x (i % 8) := ⟨_, rfl⟩
                rw [← hbv] at HIB HTB
                have hbv2 : bv < 256 := by rw [hbv]; exact byteAt_lt _ _
                clear hbv
                by_cases hz : bv = 0
                · subst hz
                  rw [show ((0 : Nat) : Int) = 0 from rfl] at HIB
                  have HZN : Hid (∀ j : Nat, r0 ≤ j → j < i + 1 → TlB S (b : Int) j = 0) := fun j h1 h2 => by
                    by_cases e : j = i
                    · subst e; exact HTB.out
                    · exact HZ.out j h1 (by omega)
                  go_wp2_with (first
                  | (go_at_call 105; (refine (block_any _ _).mono ?_); (rintro e w6 ⟨rfl, rfl⟩); rw [HBK.out])
                  | (go_at_call 37; rw [HQ8.out]; (with_reducible refine HGB.out.mono ?_); (rintro e w6 ⟨rfl, rfl⟩))
                  | (go_at_call 104; (with_reducible refine (HBY.out _).mono ?_); (rintro e w6 ⟨rfl, hb6⟩); (have HX6 : Hid (Mod nob wr w6) := mod_of_below hb6); (clear hb6))
                  | (rw [HR8.out]; (with_reducible refine wpList_index_r (o := ⟨some 49, _, _, _, _, _⟩) rfl 141 (.tmp 46) (.tmp 48) rfl AG (.int .i64 ((i % 8 : Nat) : Int)) rfl rfl (HIB.out _) ?_)))
                  go_roundg (gk - 1)
                  case measure => omega
                  case rel => exact ⟨i + 1, by omega, by omega, by go_num, HZN.out, HI.out.mod HX6.out (fun h => h), HMI.out.step HX6.out (fun _ h => h)⟩
                · have HBF : Hid (bb = false) := by
                    unfold Hid
                    rw [HBB.out]
                    refine tlB_false (fun hp => ?_)
                    have := HT2.out.2 (hp k hlt) i hri hlti
                    rw [HTB.out] at this
                    exact hz this
                  have hzb : (((bv : Nat) : Int) != 0) = true := by simpa using hz
                  go_wp2_with (first
                  | (go_at_call 105; (refine (block_any _ _).mono ?_); (rintro e w6 ⟨rfl, rfl⟩); rw [HBK.out])
                  | (go_at_call 37; rw [HQ8.out]; (with_reducible refine HGB.out.mono ?_); (rintro e w6 ⟨rfl, rfl⟩))
                  | (go_at_call 104; (with_reducible refine (HBY.out _).mono ?_); (rintro e w6 ⟨rfl, hb6⟩); (have HX6 : Hid (Mod nob wr w6) := mod_of_below hb6); (clear hb6))
                  | (rw [HR8.out]; (with_reducible refine wpList_index_r (o := ⟨some 49, _, _, _, _, _⟩) rfl 141 (.tmp 46) (.tmp 48) rfl AG (.int .i64 ((i % 8 : Nat) : Int)) rfl rfl (HIB.out _) ?_)))
                  go_ret
                  exact ⟨by rw [HBF.out]; rfl, nob_mod_below (HMI.out.step HX6.out (fun _ h => h))⟩
              · obtain rfl : i = 64 := by omega
                have hii : ¬ ((64 : Nat) : Int) < 64 := by omega
                have HN : Hid (TlP S (k + 1)) := fun j hj => by
                  by_cases e : j = k
                  · subst e
                    exact HT2.out.1 HZ.out
                  · exact HLN.out j hj e
                go_wp2_with fail
                go_roundg (32 - k - 1)
                case measure => omega
                case rel => exact ⟨k + 1, by omega, by go_num, HN.out, HMI.out⟩
        · have hk13 : (13 : Int) ≤ (K : Int) := by omega
          have HN : Hid (TlP S (k + 1)) := fun j hj => by
            by_cases e : j = k
            · subst e
              exact HTI.out.1 (fun _ h2 => absurd h2 h13)
            · exact HLN.out j hj e
          clear HTI
          go_wp2_with fail
          go_roundg (gk - 1)
          case measure => omega
          case rel => exact ⟨k + 1, by omega, by go_num, HN.out, HM5.out⟩
      · have hb1 : (ki != 1) = true := by simpa using h1
        have HN : Hid (TlP S (k + 1)) := fun j hj => by
          by_cases e : j = k
          · subst e
            exact HTI.out.1 (fun h2 => absurd h2 h1)
          · exact HLN.out j hj e
        clear HTI
        go_wp2_with fail
        go_roundg (gk - 1)
        case measure => omega
        case rel => exact ⟨k + 1, by omega, by go_num, HN.out, HM5.out⟩
    · obtain rfl : k = 32 := by omega
      have hki : ¬ ((32 : Nat) : Int) < 32 := by omega
      have HBT : Hid (bb = true) := by unfold Hid; rw [HBB.out]; exact tlB_true HRP.out
      go_wp2_with fail
      go_ret
      exact ⟨by rw [HBT.out]; rfl, nob_mod_below HM.out⟩
end Go.Proofs.Ytlopdbhjdijlmaa

namespace Go.Proofs.Ytlopdbhjdijlmaa
open Go.ChangeShapes Go.WideShapes Go.ChangeAt Go.RowKit
set_option linter.unusedSimpArgs false
set_option linter.unusedVariables false

/-- The seven answers. -/
noncomputable def sevB (S : Sh) : Nat → Bool
  | 0 => superB S
  | 1 => inosB S
  | 2 => entrB S
  | 3 => lnkB S
  | 4 => reachB S
  | 5 => blkB S
  | _ => tlB S
def sevV : Array Value := #[.func (.func 68) #[] #[], .func (.func 69) #[] #[], .func (.func 70) #[] #[], .func (.func 71) #[] #[], .func (.func 72) #[] #[], .func (.func 73) #[] #[], .func (.func 74) #[] #[]]
def Sev (w : World) (B : Nat) : Prop := w.heap[B]? = some (.cells #[.func (.func 68) #[] #[], .func (.func 69) #[] #[], .func (.func 70) #[] #[], .func (.func 71) #[] #[], .func (.func 72) #[] #[], .func (.func 73) #[] #[], .func (.func 74) #[] #[]] 107 (0, 0))
theorem Sev.cell {w : World} {B : Nat} (h : Sev w B) (i : Nat) {v : Value} (hv : (#[.func (.func 68) #[] #[], .func (.func 69) #[] #[], .func (.func 70) #[] #[], .func (.func 71) #[] #[], .func (.func 72) #[] #[], .func (.func 73) #[] #[], .func (.func 74) #[] #[]] : Array Value)[i]? = some v) : w.cell? ⟨B, i, none⟩ = some v := by
  rw [cell_of_row _ _ _ _ _ _ h]; exact hv
theorem Sev.mod {w w' : World} {B : Nat} {D : Nat → Prop} (h : Sev w B) (hm : Mod D w w') (hd : ¬ D B) : Sev w' B := hm.heap h hd
/-- What Sound tells: the number of the first that isn't, or 0. -/
def SndP (b : Nat → Bool) (k : Nat) (ok : Bool) : Prop := (k = 0 ∧ ok = true ∧ ∀ j, j < 7 → b j = true) ∨ (ok = false ∧ ∃ i, k = i + 1 ∧ i < 7 ∧ b i = false ∧ ∀ j, j < i → b j = true)
set_option maxRecDepth 20000 in
set_option maxHeartbeats 4000000 in
theorem sound10 {w : World} {p : Nat} {D : Nat → Prop} {S : Sh} (h : SheetAt w p D S) :
    Calls Try.prog 36 #[.pointer (some ⟨p, 0, none⟩)] w fun e w' => (∃ (k : Nat) (b : Bool), e = .returned (.tuple #[.int .i64 (k : Nat), .bool b]) ∧ SndP (sevB S) k b) ∧ Below w.heap.size w w' := by
  have HF0 : Hid (∀ wx, Mod nob w wx → Calls Try.prog 68 #[.pointer (some ⟨p, 0, none⟩)] wx fun e w' => e = .returned (.bool (sevB S 0)) ∧ Below wx.heap.size wx w') := fun wx hm => Calls.mono (super10 (h.mod hm (fun _ _ h => h))) (fun e w' hh => ⟨hh.1, hh.2 ▸ Below.refl _ _⟩)
  have HF1 : Hid (∀ wx, Mod nob w wx → Calls Try.prog 69 #[.pointer (some ⟨p, 0, none⟩)] wx fun e w' => e = .returned (.bool (sevB S 1)) ∧ Below wx.heap.size wx w') := fun wx hm => inodes10 (h.mod hm (fun _ _ h => h))
  have HF2 : Hid (∀ wx, Mod nob w wx → Calls Try.prog 70 #[.pointer (some ⟨p, 0, none⟩)] wx fun e w' => e = .returned (.bool (sevB S 2)) ∧ Below wx.heap.size wx w') := fun wx hm => entries10 (h.mod hm (fun _ _ h => h))
  have HF3 : Hid (∀ wx, Mod nob w wx → Calls Try.prog 71 #[.pointer (some ⟨p, 0, none⟩)] wx fun e w' => e = .returned (.bool (sevB S 3)) ∧ Below wx.heap.size wx w') := fun wx hm => links10 (h.mod hm (fun _ _ h => h))
  have HF4 : Hid (∀ wx, Mod nob w wx → Calls Try.prog 72 #[.pointer (some ⟨p, 0, none⟩)] wx fun e w' => e = .returned (.bool (sevB S 4)) ∧ Below wx.heap.size wx w') := fun wx hm => reached10 (h.mod hm (fun _ _ h => h))
  have HF5 : Hid (∀ wx, Mod nob w wx → Calls Try.prog 73 #[.pointer (some ⟨p, 0, none⟩)] wx fun e w' => e = .returned (.bool (sevB S 5)) ∧ Below wx.heap.size wx w') := fun wx hm => blocks10 (h.mod hm (fun _ _ h => h))
  have HF6 : Hid (∀ wx, Mod nob w wx → Calls Try.prog 74 #[.pointer (some ⟨p, 0, none⟩)] wx fun e w' => e = .returned (.bool (sevB S 6)) ∧ Below wx.heap.size wx w') := fun wx hm => tails10 (h.mod hm (fun _ _ h => h))
  obtain ⟨bs, hbs⟩ : ∃ bs, bs = sevB S := ⟨_, rfl⟩
  rw [← hbs] at HF0 HF1 HF2 HF3 HF4 HF5 HF6 ⊢
  clear h hbs
  go_enter Try.func36, Try.ntmps36
  go_upto_region 2 with (fail)
  have HS0 : Hid (Sev (w.alloc (.cells #[.func (.func 68) #[] #[], .func (.func 69) #[] #[], .func (.func 70) #[] #[], .func (.func 71) #[] #[], .func (.func 72) #[] #[], .func (.func 73) #[] #[], .func (.func 74) #[] #[]] 107)) w.heap.size) := heap_alloc_new _ _
  have HM0 : Hid (Mod nob w (w.alloc (.cells #[.func (.func 68) #[] #[], .func (.func 69) #[] #[], .func (.func 70) #[] #[], .func (.func 71) #[] #[], .func (.func 72) #[] #[], .func (.func 73) #[] #[], .func (.func 74) #[] #[]] 107))) := (Mod.refl nob w).alloc _
  generalize w.alloc (.cells #[.func (.func 68) #[] #[], .func (.func 69) #[] #[], .func (.func 70) #[] #[], .func (.func 71) #[] #[], .func (.func 72) #[] #[], .func (.func 73) #[] #[], .func (.func 74) #[] #[]] 107) = w0 at *
  obtain ⟨B, hB⟩ : ∃ B, B = w.heap.size := ⟨_, rfl⟩
  rw [← hB] at HS0 ⊢
  clear hB
  refine wp_loop_rounds 8 ?_
  rw [rounds_succ]
  have cx0 : w0.cell? ⟨B, 0, none⟩ = some (.func (.func 68) #[] #[]) := HS0.out.cell 0 rfl
  have HX0 := Lib.hid (HF0.out w0 HM0.out)
  obtain ⟨b0, hb0⟩ : ∃ b, b = bs 0 := ⟨_, rfl⟩
  rw [← hb0] at HX0
  have HBE0 := Lib.hid hb0
  clear hb0 HF0
  cases b0
  case false =>
    go_wp2_with (go_at_call 68; (with_reducible refine HX0.out.mono ?_); (rintro e wz ⟨rfl, hbz⟩); (have HXz : Hid (Mod nob w0 wz) := mod_of_below hbz); clear hbz)
    go_ret2
    exact ⟨⟨1, false, rfl, .inr ⟨rfl, 0, rfl, by omega, HBE0.out.symm, fun j hj => by omega⟩⟩, nob_mod_below (HM0.out.step HXz.out (fun _ h => h))⟩
  go_wp2_with (go_at_call 68; (with_reducible refine HX0.out.mono ?_); (rintro e w1 ⟨rfl, hbz⟩); (have HX1z : Hid (Mod nob w0 w1) := mod_of_below hbz); clear hbz)
  have HS1 : Hid (Sev w1 B) := HS0.out.mod HX1z.out (fun h => h)
  have HM1 : Hid (Mod nob w w1) := HM0.out.step HX1z.out (fun _ h => h)
  clear HX0 HS0 HM0 HX1z cx0
  rw [rounds_succ]
  have cx1 : w1.cell? ⟨B, 1, none⟩ = some (.func (.func 69) #[] #[]) := HS1.out.cell 1 rfl
  have HX1 := Lib.hid (HF1.out w1 HM1.out)
  obtain ⟨b1, hb1⟩ : ∃ b, b = bs 1 := ⟨_, rfl⟩
  rw [← hb1] at HX1
  have HBE1 := Lib.hid hb1
  clear hb1 HF1
  cases b1
  case false =>
    go_wp2_with (go_at_call 69; (with_reducible refine HX1.out.mono ?_); (rintro e wz ⟨rfl, hbz⟩); (have HXz : Hid (Mod nob w1 wz) := mod_of_below hbz); clear hbz)
    go_ret2
    exact ⟨⟨2, false, rfl, .inr ⟨rfl, 1, rfl, by omega, HBE1.out.symm, fun j hj => by rw [show j = 0 by omega]; exact HBE0.out.symm⟩⟩, nob_mod_below (HM1.out.step HXz.out (fun _ h => h))⟩
  go_wp2_with (go_at_call 69; (with_reducible refine HX1.out.mono ?_); (rintro e w2 ⟨rfl, hbz⟩); (have HX2z : Hid (Mod nob w1 w2) := mod_of_below hbz); clear hbz)
  have HS2 : Hid (Sev w2 B) := HS1.out.mod HX2z.out (fun h => h)
  have HM2 : Hid (Mod nob w w2) := HM1.out.step HX2z.out (fun _ h => h)
  clear HX1 HS1 HM1 HX2z cx1
  rw [rounds_succ]
  have cx2 : w2.cell? ⟨B, 2, none⟩ = some (.func (.func 70) #[] #[]) := HS2.out.cell 2 rfl
  have HX2 := Lib.hid (HF2.out w2 HM2.out)
  obtain ⟨b2, hb2⟩ : ∃ b, b = bs 2 := ⟨_, rfl⟩
  rw [← hb2] at HX2
  have HBE2 := Lib.hid hb2
  clear hb2 HF2
  cases b2
  case false =>
    go_wp2_with (go_at_call 70; (with_reducible refine HX2.out.mono ?_); (rintro e wz ⟨rfl, hbz⟩); (have HXz : Hid (Mod nob w2 wz) := mod_of_below hbz); clear hbz)
    go_ret2
    exact ⟨⟨3, false, rfl, .inr ⟨rfl, 2, rfl, by omega, HBE2.out.symm, fun j hj => by rcases (show j = 0 ∨ j = 1 by omega) with e | e <;> subst e <;> first | exact HBE0.out.symm | exact HBE1.out.symm⟩⟩, nob_mod_below (HM2.out.step HXz.out (fun _ h => h))⟩
  go_wp2_with (go_at_call 70; (with_reducible refine HX2.out.mono ?_); (rintro e w3 ⟨rfl, hbz⟩); (have HX3z : Hid (Mod nob w2 w3) := mod_of_below hbz); clear hbz)
  have HS3 : Hid (Sev w3 B) := HS2.out.mod HX3z.out (fun h => h)
  have HM3 : Hid (Mod nob w w3) := HM2.out.step HX3z.out (fun _ h => h)
  clear HX2 HS2 HM2 HX3z cx2
  rw [rounds_succ]
  have cx3 : w3.cell? ⟨B, 3, none⟩ = some (.func (.func 71) #[] #[]) := HS3.out.cell 3 rfl
  have HX3 := Lib.hid (HF3.out w3 HM3.out)
  obtain ⟨b3, hb3⟩ : ∃ b, b = bs 3 := ⟨_, rfl⟩
  rw [← hb3] at HX3
  have HBE3 := Lib.hid hb3
  clear hb3 HF3
  cases b3
  case false =>
    go_wp2_with (go_at_call 71; (with_reducible refine HX3.out.mono ?_); (rintro e wz ⟨rfl, hbz⟩); (have HXz : Hid (Mod nob w3 wz) := mod_of_below hbz); clear hbz)
    go_ret2
    exact ⟨⟨4, false, rfl, .inr ⟨rfl, 3, rfl, by omega, HBE3.out.symm, fun j hj => by rcases (show j = 0 ∨ j = 1 ∨ j = 2 by omega) with e | e | e <;> subst e <;> first | exact HBE0.out.symm | exact HBE1.out.symm | exact HBE2.out.symm⟩⟩, nob_mod_below (HM3.out.step HXz.out (fun _ h => h))⟩
  go_wp2_with (go_at_call 71; (with_reducible refine HX3.out.mono ?_); (rintro e w4 ⟨rfl, hbz⟩); (have HX4z : Hid (Mod nob w3 w4) := mod_of_below hbz); clear hbz)
  have HS4 : Hid (Sev w4 B) := HS3.out.mod HX4z.out (fun h => h)
  have HM4 : Hid (Mod nob w w4) := HM3.out.step HX4z.out (fun _ h => h)
  clear HX3 HS3 HM3 HX4z cx3
  rw [rounds_succ]
  have cx4 : w4.cell? ⟨B, 4, none⟩ = some (.func (.func 72) #[] #[]) := HS4.out.cell 4 rfl
  have HX4 := Lib.hid (HF4.out w4 HM4.out)
  obtain ⟨b4, hb4⟩ : ∃ b, b = bs 4 := ⟨_, rfl⟩
  rw [← hb4] at HX4
  have HBE4 := Lib.hid hb4
  clear hb4 HF4
  cases b4
  case false =>
    go_wp2_with (go_at_call 72; (with_reducible refine HX4.out.mono ?_); (rintro e wz ⟨rfl, hbz⟩); (have HXz : Hid (Mod nob w4 wz) := mod_of_below hbz); clear hbz)
    go_ret2
    exact ⟨⟨5, false, rfl, .inr ⟨rfl, 4, rfl, by omega, HBE4.out.symm, fun j hj => by rcases (show j = 0 ∨ j = 1 ∨ j = 2 ∨ j = 3 by omega) with e | e | e | e <;> subst e <;> first | exact HBE0.out.symm | exact HBE1.out.symm | exact HBE2.out.symm | exact HBE3.out.symm⟩⟩, nob_mod_below (HM4.out.step HXz.out (fun _ h => h))⟩
  go_wp2_with (go_at_call 72; (with_reducible refine HX4.out.mono ?_); (rintro e w5 ⟨rfl, hbz⟩); (have HX5z : Hid (Mod nob w4 w5) := mod_of_below hbz); clear hbz)
  have HS5 : Hid (Sev w5 B) := HS4.out.mod HX5z.out (fun h => h)
  have HM5 : Hid (Mod nob w w5) := HM4.out.step HX5z.out (fun _ h => h)
  clear HX4 HS4 HM4 HX5z cx4
  rw [rounds_succ]
  have cx5 : w5.cell? ⟨B, 5, none⟩ = some (.func (.func 73) #[] #[]) := HS5.out.cell 5 rfl
  have HX5 := Lib.hid (HF5.out w5 HM5.out)
  obtain ⟨b5, hb5⟩ : ∃ b, b = bs 5 := ⟨_, rfl⟩
  rw [← hb5] at HX5
  have HBE5 := Lib.hid hb5
  clear hb5 HF5
  cases b5
  case false =>
    go_wp2_with (go_at_call 73; (with_reducible refine HX5.out.mono ?_); (rintro e wz ⟨rfl, hbz⟩); (have HXz : Hid (Mod nob w5 wz) := mod_of_below hbz); clear hbz)
    go_ret2
    exact ⟨⟨6, false, rfl, .inr ⟨rfl, 5, rfl, by omega, HBE5.out.symm, fun j hj => by rcases (show j = 0 ∨ j = 1 ∨ j = 2 ∨ j = 3 ∨ j = 4 by omega) with e | e | e | e | e <;> subst e <;> first | exact HBE0.out.symm | exact HBE1.out.symm | exact HBE2.out.symm | exact HBE3.out.symm | exact HBE4.out.symm⟩⟩, nob_mod_below (HM5.out.step HXz.out (fun _ h => h))⟩
  go_wp2_with (go_at_call 73; (with_reducible refine HX5.out.mono ?_); (rintro e w6 ⟨rfl, hbz⟩); (have HX6z : Hid (Mod nob w5 w6) := mod_of_below hbz); clear hbz)
  have HS6 : Hid (Sev w6 B) := HS5.out.mod HX6z.out (fun h => h)
  have HM6 : Hid (Mod nob w w6) := HM5.out.step HX6z.out (fun _ h => h)
  clear HX5 HS5 HM5 HX6z cx5
  rw [rounds_succ]
  have cx6 : w6.cell? ⟨B, 6, none⟩ = some (.func (.func 74) #[] #[]) := HS6.out.cell 6 rfl
  have HX6 := Lib.hid (HF6.out w6 HM6.out)
  obtain ⟨b6, hb6⟩ : ∃ b, b = bs 6 := ⟨_, rfl⟩
  rw [← hb6] at HX6
  have HBE6 := Lib.hid hb6
  clear hb6 HF6
  cases b6
  case false =>
    go_wp2_with (go_at_call 74; (with_reducible refine HX6.out.mono ?_); (rintro e wz ⟨rfl, hbz⟩); (have HXz : Hid (Mod nob w6 wz) := mod_of_below hbz); clear hbz)
    go_ret2
    exact ⟨⟨7, false, rfl, .inr ⟨rfl, 6, rfl, by omega, HBE6.out.symm, fun j hj => by rcases (show j = 0 ∨ j = 1 ∨ j = 2 ∨ j = 3 ∨ j = 4 ∨ j = 5 by omega) with e | e | e | e | e | e <;> subst e <;> first | exact HBE0.out.symm | exact HBE1.out.symm | exact HBE2.out.symm | exact HBE3.out.symm | exact HBE4.out.symm | exact HBE5.out.symm⟩⟩, nob_mod_below (HM6.out.step HXz.out (fun _ h => h))⟩
  go_wp2_with (go_at_call 74; (with_reducible refine HX6.out.mono ?_); (rintro e w7 ⟨rfl, hbz⟩); (have HX7z : Hid (Mod nob w6 w7) := mod_of_below hbz); clear hbz)
  have HS7 : Hid (Sev w7 B) := HS6.out.mod HX7z.out (fun h => h)
  have HM7 : Hid (Mod nob w w7) := HM6.out.step HX7z.out (fun _ h => h)
  clear HX6 HS6 HM6 HX7z cx6
  rw [rounds_succ]
  go_wp2_with fail
  go_ret2
  exact ⟨⟨0, true, rfl, .inl ⟨rfl, rfl, fun j hj => by
    rcases (show j = 0 ∨ j = 1 ∨ j = 2 ∨ j = 3 ∨ j = 4 ∨ j = 5 ∨ j = 6 by omega) with rfl | rfl | rfl | rfl | rfl | rfl | rfl
    · exact HBE0.out.symm
    · exact HBE1.out.symm
    · exact HBE2.out.symm
    · exact HBE3.out.symm
    · exact HBE4.out.symm
    · exact HBE5.out.symm
    · exact HBE6.out.symm⟩⟩, nob_mod_below HM7.out⟩
end Go.Proofs.Ytlopdbhjdijlmaa

namespace Go.Proofs.Ytlopdbhjdijlmaa
set_option linter.unusedSimpArgs false
set_option linter.unusedVariables false

theorem getX_laid {S : Sh} (hS : S.Ok) {i : Int} {m : Ino} {xs : List Nat} (h : getR S i = some (m, xs)) : (0 ≤ i ∧ i < 32) ∧ m.Ok ∧ RightP m ∧ LaidX S i m xs := by
  unfold getR at h
  split at h
  · cases h
  · split at h
    · cases h
    · unfold rdI at h
      split at h
      · obtain ⟨h1, h2, h3, h4, h5⟩ := rd2_some hS h
        exact ⟨h1, h2, h3, by unfold LaidX; rw [if_pos h4]; exact h5⟩
      · obtain ⟨h1, h2, h3, h4, h5⟩ := rd1_some hS h
        exact ⟨h1, h2, h3, by unfold LaidX; rw [if_neg (by omega)]; exact h5⟩
/-- Two sheets whose words from the inodes on are the same. -/
def Agree (S T : Sh) : Prop := ∀ j : Int, 824 ≤ j → T.get j = S.get j
theorem Agree.symm {S T : Sh} (h : Agree S T) : Agree T S := fun j hj => (h j hj).symm
theorem getR_agree1 {S T : Sh} (hS : S.Ok) (h : Agree S T) {i : Int} {m : Ino} {xs : List Nat} (e : getR S i = some (m, xs)) : getR T i = some (m, xs) := by
  obtain ⟨hi, hm, hr, hl⟩ := getX_laid hS e
  exact (laidX_get hi hm hr (hl.congr (fun k hk => h _ (by omega)) (fun x hx r hr => h _ (by omega)))).2.2
theorem getR_agree {S T : Sh} (hS : S.Ok) (hT : T.Ok) (h : Agree S T) (i : Int) : getR T i = getR S i := by
  cases e : getR S i with
  | some r =>
    obtain ⟨m, xs⟩ := r
    exact getR_agree1 hS h e
  | none =>
    cases e2 : getR T i with
    | none => rfl
    | some r =>
      obtain ⟨m, xs⟩ := r
      have := getR_agree1 hT h.symm e2
      rw [e] at this
      cases this
theorem freeI_agree1 {S T : Sh} (h : Agree S T) {i : Int} (e : freeI S i = true) : freeI T i = true := by
  obtain ⟨hi, hz⟩ := (freeI_iff S i).1 e
  exact (freeI_iff T i).2 ⟨hi, fun k hk => by rw [h _ (by omega)]; exact hz k hk⟩
theorem freeI_agree {S T : Sh} (h : Agree S T) (i : Int) : freeI T i = freeI S i := by
  cases e : freeI S i with
  | true => exact freeI_agree1 h e
  | false =>
    cases e2 : freeI T i with
    | false => rfl
    | true =>
      have := freeI_agree1 h.symm e2
      rw [e] at this
      cases this
theorem getE_of (S : Sh) (i : Int) : getE S i = if i < 0 ∨ 32 ≤ i then 1 else if freeI S i = true then 2 else if getR S i = none then 10 else 0 := by
  unfold getE getR
  split
  · rfl
  · split
    · rfl
    · cases rdI S i with
      | none => rfl
      | some r => rfl
theorem getE_agree {S T : Sh} (hS : S.Ok) (hT : T.Ok) (h : Agree S T) (i : Int) : getE T i = getE S i := by
  rw [getE_of, getE_of, freeI_agree h, getR_agree hS hT h]
theorem gotT_agree {S T : Sh} (hS : S.Ok) (hT : T.Ok) (h : Agree S T) : gotT T = gotT S := by
  funext k
  unfold gotT
  rw [getR_agree hS hT h]
theorem allI_agree {S T : Sh} (hS : S.Ok) (hT : T.Ok) (h : Agree S T) (i : Int) : allI T i = allI S i := by
  unfold allI
  rw [getR_agree hS hT h]
theorem metN_agree {S T : Sh} (hS : S.Ok) (hT : T.Ok) (h : Agree S T) (b : Nat) : ∀ k, metN T b k = metN S b k
  | 0 => rfl
  | k + 1 => by
    unfold metN
    rw [metN_agree hS hT h b k, allI_agree hS hT h]
theorem inosB_agree {S T : Sh} (hS : S.Ok) (hT : T.Ok) (h : Agree S T) : inosB T = inosB S := by
  have e : InosP T = InosP S := by
    funext n
    unfold InosP
    simp only [getE_agree hS hT h]
  unfold inosB
  rw [e]
theorem entrB_agree {S T : Sh} (hS : S.Ok) (hT : T.Ok) (h : Agree S T) : entrB T = entrB S := by
  have e : EntrP T = EntrP S := by
    funext n
    unfold EntrP EntP
    simp only [gotT_agree hS hT h]
  unfold entrB
  rw [e, gotT_agree hS hT h]
theorem lnkB_agree {S T : Sh} (hS : S.Ok) (hT : T.Ok) (h : Agree S T) : lnkB T = lnkB S := by
  have e : LnkP T = LnkP S := by
    funext n
    unfold LnkP cntR
    simp only [gotT_agree hS hT h]
  unfold lnkB
  rw [e]
theorem reachB_agree {S T : Sh} (hS : S.Ok) (hT : T.Ok) (h : Agree S T) : reachB T = reachB S := by
  have e : ReachP T = ReachP S := by
    funext n
    unfold ReachP
    simp only [gotT_agree hS hT h]
  unfold reachB
  rw [e]

/-- The sheet with one bit turned. -/
def flipS (S : Sh) (b : Nat) : Sh := S.put ((816 + b / 64 : Nat) : Int) (flipW S b : Nat)
theorem flipS_ok {S : Sh} (h : S.Ok) (b : Nat) : (flipS S b).Ok := h.put _ _ (by omega) (by have := flipW_lt h b; omega)
theorem flipS_get (S : Sh) (b : Nat) (hb : b < 256) (j : Int) (hj : j < 816 ∨ 820 ≤ j) : (flipS S b).get j = S.get j := get_put_ne S (by omega)
theorem flipS_bit (S : Sh) (b : Nat) (hb : b < 256) : bitB (flipS S b) b = !bitB S b := by
  unfold bitB flipS
  rw [now_put _ _ _ (by omega), if_pos rfl, Int.toNat_natCast]
  unfold flipW
  rw [Nat.testBit_xor, Nat.testBit_two_pow]
  simp
theorem superB_flip (S : Sh) (b : Nat) (hb : b < 256) : superB (flipS S b) = superB S := by
  have e : SuperP (flipS S b) ↔ SuperP S := by
    unfold SuperP ZeroP
    have hz : (∀ i : Nat, i < 824 → UnusedI i → (flipS S b).get (i : Int) = 0) ↔ ∀ i : Nat, i < 824 → UnusedI i → S.get (i : Int) = 0 := by
      constructor
      · intro h i h1 h2
        rw [← flipS_get S b hb _ (by rcases h2 with h2 | h2 <;> omega)]
        exact h i h1 h2
      · intro h i h1 h2
        rw [flipS_get S b hb _ (by rcases h2 with h2 | h2 <;> omega)]
        exact h i h1 h2
    rw [hz, flipS_get S b hb 0 (by omega), flipS_get S b hb 1 (by omega), flipS_get S b hb 2 (by omega)]
  by_cases h : SuperP S
  · rw [superB_true h, superB_true (e.2 h)]
  · rw [superB_false h, superB_false (fun h2 => h (e.1 h2))]
/-- Of a sound sheet with one bit turned, the sixth isn't so. -/
theorem sev_flip {S : Sh} (hS : S.Ok) (b : Nat) (hb : b < 256) (h : ∀ j, j < 7 → sevB S j = true) : (∀ j, j < 5 → sevB (flipS S b) j = true) ∧ sevB (flipS S b) 5 = false := by
  have hT := flipS_ok hS b
  have ha : Agree S (flipS S b) := fun j hj => flipS_get S b hb j (by omega)
  have h0 : superB S = true := h 0 (by omega)
  have h1 : inosB S = true := h 1 (by omega)
  have h2 : entrB S = true := h 2 (by omega)
  have h3 : lnkB S = true := h 3 (by omega)
  have h4 : reachB S = true := h 4 (by omega)
  have h5 : blkB S = true := h 5 (by omega)
  refine ⟨fun j hj => ?_, ?_⟩
  · rcases (show j = 0 ∨ j = 1 ∨ j = 2 ∨ j = 3 ∨ j = 4 by omega) with rfl | rfl | rfl | rfl | rfl
    · show superB _ = true
      rw [superB_flip S b hb]; exact h0
    · show inosB _ = true
      rw [inosB_agree hS hT ha]; exact h1
    · show entrB _ = true
      rw [entrB_agree hS hT ha]; exact h2
    · show lnkB _ = true
      rw [lnkB_agree hS hT ha]; exact h3
    · show reachB _ = true
      rw [reachB_agree hS hT ha]; exact h4
  · show blkB _ = false
    have hp : BlkP S 256 ∧ metN S 0 32 = 0 := Classical.byContradiction (fun hn => by rw [blkB_false hn] at h5; cases h5)
    refine blkB_false (fun hq => ?_)
    have e1 := (hp.1 b hb).2
    have e2 := (hq.1 b hb).2
    rw [metN_agree hS hT ha, flipS_bit S b hb, e1] at e2
    cases hh : bitB S b <;> rw [hh] at e2 <;> cases e2
theorem snd_six {b : Nat → Bool} {k : Nat} {ok : Bool} (h : SndP b k ok) (h0 : ∀ j, j < 5 → b j = true) (h5 : b 5 = false) : k = 6 ∧ ok = false := by
  rcases h with ⟨-, -, h3⟩ | ⟨h1, i, h2, -, h4, h6⟩
  · have := h3 5 (by omega)
    rw [h5] at this
    cases this
  · refine ⟨?_, h1⟩
    rcases (show i < 5 ∨ i = 5 ∨ 5 < i by omega) with e | e | e
    · have := h0 i e
      rw [h4] at this
      cases this
    · omega
    · have := h6 5 e
      rw [h5] at this
      cases this
theorem snd_ok {b : Nat → Bool} {k : Nat} (h : SndP b k true) : ∀ j, j < 7 → b j = true := by
  rcases h with ⟨-, -, h3⟩ | ⟨h1, -⟩
  · exact h3
  · cases h1
end Go.Proofs.Ytlopdbhjdijlmaa

namespace Go.Proofs.Ytlopdbhjdijlmaa
open Go.ChangeShapes Go.WideShapes Go.ChangeAt Go.RowKit
set_option linter.unusedSimpArgs false
set_option linter.unusedVariables false

theorem sev_new : sevB (Sh.new []) 0 = false := superB_false (fun h => by
  have := h.2.1
  rw [new_nil_get] at this
  omega)
theorem snd_first {b : Nat → Bool} {k : Nat} {ok : Bool} (h : SndP b k ok) (h0 : b 0 = false) : k = 1 ∧ ok = false := by
  rcases h with ⟨-, -, h3⟩ | ⟨h1, i, h2, -, h4, h5⟩
  · have := h3 0 (by omega)
    rw [h0] at this
    cases this
  · refine ⟨?_, h1⟩
    by_cases e : i = 0
    · omega
    · have := h5 0 (by omega)
      rw [h0] at this
      cases this
set_option maxRecDepth 20000 in
set_option maxHeartbeats 2000000 in
theorem awake10 (w : World) : Calls Try.prog 33 #[] w fun e w' => e = .returned (.bool true) ∧ Below w.heap.size w w' := by
  have HTX : Hid (∀ wx, Calls Try.prog 30 #[.slice none 0 0] wx fun e w' => ∃ p, e = .returned (.pointer (some ⟨p, 0, none⟩)) ∧ SheetAt w' p (grow nob wx w') (Sh.new []) ∧ Below wx.heap.size wx w') := fun wx => tx_new (HoldsU.nil wx) (fun z hz => by cases hz)
  have HSN : Hid (∀ (wx : World) (p : Nat) (D : Nat → Prop), SheetAt wx p D (Sh.new []) → Calls Try.prog 36 #[.pointer (some ⟨p, 0, none⟩)] wx fun e w' => e = .returned (.tuple #[.int .i64 1, .bool false]) ∧ Below wx.heap.size wx w') := fun wx p D h => (sound10 h).mono (fun e w' hh => by
    obtain ⟨⟨k, b, rfl, hs⟩, hb⟩ := hh
    obtain ⟨rfl, rfl⟩ := snd_first hs sev_new
    exact ⟨rfl, hb⟩)
  go_enter Try.func33, Try.ntmps33
  go_wp2_with (first
    | (go_at_call 30; refine (HTX.out _).mono ?_; rintro e w1 ⟨p, rfl, hs, hb1⟩; have HS1 := Lib.hid hs; have HB1 := Lib.hid hb1; clear hs hb1)
    | (go_at_call 36; refine (HSN.out _ _ _ HS1.out).mono ?_; rintro e w2 ⟨rfl, hb2⟩; have HB2 := Lib.hid hb2; clear hb2))
  go_ret
  exact ⟨rfl, HB1.out.trans (HB2.out.mono HB1.out.size)⟩
end Go.Proofs.Ytlopdbhjdijlmaa
