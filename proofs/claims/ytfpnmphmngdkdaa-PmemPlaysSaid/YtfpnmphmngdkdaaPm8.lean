/-
  A memory that may last: a crash: a contract. No condition.
-/
import Derived.Test.YtfpnmphmngdkdaaPm4
import Derived.Test.YtfpnmphmngdkdaaPm7
import Derived.Test.YtfpnmphmngdkdaaPmKeys
import Derived.Test.YtfpnmphmngdkdaaBytes
namespace Go.Proofs.Ytfpnmphmngdkdaa
open Go.ChangeShapes Go.WideShapes Go.ChangeAt Go.RowKit
set_option linter.unusedSimpArgs false
set_option linter.unusedVariables false

open Go.Maps Go.WideElems Go.WideAt Go.MapKept Go.ChangeMaps in
theorem MapR.look_run {w : World} {b n : Nat} {f : Nat → Option Int} (h : MapR w b n f) {k : Nat} (hk : k < n) (hn : n ≤ 10000) {x : Int} (hx : f k = some x) :
    (Instr.lookup 106 (.map (some b)) (.int .i64 (k : Int)) false).run Try.prog w = .ok (.int .u64 x) w := by
  obtain ⟨D, hown, hkk, hf, hv, hs, ho⟩ := h
  obtain ⟨c, hrun, hat, -⟩ := hown.lookup_int Try.lawInt Try.underlying106 Try.underlying41 (Try.zeroU64 w) (keyOf_int_mk Try.underlying3 (wf_place hk hn))
  rw [hv k x hx] at hat
  cases hat
  exact hrun

theorem still_lookR {ops : Array Oper} {w : World} {Q : Act → Prop} {o : Oper} {rest : List Oper} {a : Act} (hg : o.guard = none) (m x : Operand) (hop : o.op = Op.lookup 106 m x false) {b : Nat} {k y : Int} (hm : a.eval m = .map (some b)) (hx : a.eval x = .int .i64 k)
    (hrun : (Instr.lookup 106 (.map (some b)) (.int .i64 k) false).run Try.prog w = .ok (.int .u64 y) w) (hK : wpStill Try.prog ops w Q rest (a.put o.dst (.int .u64 y))) : wpStill Try.prog ops w Q (o :: rest) a := by
  refine wpStill_step (fun K hK' => ?_)
  rw [if_pos (by simp [Region.wanted, hg])]
  unfold Oper.still
  simp [execOp, hop, hm, hx, hrun, Result.andThen, Oper.stillUpon]
  exact hK' _ hK

set_option maxRecDepth 20000 in
set_option maxHeartbeats 1000000 in
theorem pm_crash {w : World} {p : Nat} {D : Nat → Prop} {S : Pm} (h : PmAt w p D S) {kv : Value} {keep : List Nat} (hk : HoldsB w kv keep) (hkd : keep ≠ [] → ∀ g, kv.ownBlock = some g → ¬ D g) :
    Calls Try.prog 48 #[.pointer (some ⟨p, 0, none⟩), kv] w fun e w' => e = .returned (.tuple #[]) ∧ PmAt w' p D (S.crash keep) ∧ Mod D w w' := by
  obtain ⟨v, ob, fb, h⟩ := h
  have HK := Lib.hid hk
  obtain ⟨ka, kc, rfl, -, hkm, -⟩ := hk
  obtain ⟨m, hm⟩ : ∃ m, m = keep.length := ⟨_, rfl⟩
  rw [← hm] at HK hkd ⊢
  have HMM := Lib.hid hm
  have HKD := Lib.hid hkd
  obtain ⟨c0, c1, -, -, -, -⟩ := h.cells
  have hN := h.ok.n
  have HR := Lib.hid h
  have HLT := Lib.hid h.lt
  have HGET := Lib.hid (places_get S.old S.n)
  have hpl := places_length S.old S.n
  have hple := cnt_le S.old S.n
  obtain ⟨L, hL⟩ : ∃ L, L = (places S.old S.n).length := ⟨_, rfl⟩
  have HL := Lib.hid hL
  have HPL := Lib.hid hpl
  have hLn : L ≤ 10000 := by omega
  have HSD := Lib.hid (sorted_dirty h.old hN)
  clear h hkd hm hpl hple hL
  go_enter Try.func48, Try.ntmps48
  go_wp2_with (first
    | (go_at_call 109; refine (keys_call _ _).mono ?_; rintro e w1 ⟨rfl, rfl⟩)
    | (go_at_call 108; refine HSD.out.mono ?_; rintro e w2 ⟨v2, rfl, hrow, hfr, hb2⟩; obtain ⟨ao2, cap2, rfl, l1, l2, hrow⟩ := hrow; rw [← HL.out] at l1 hfr ⊢))
  have HROW := Lib.hid hrow
  have HFR := Lib.hid hfr
  have HR2 : Hid (PmR w2 p D S v ob fb) := (HR.out.mod (D0 := nob) ((Mod.refl nob w).alloc _) (fun _ _ h => h)).mod (mod_of_below (hb2.mono (by simp))) (fun _ _ h => h)
  have HM2 : Hid (Mod nob w w2) := ((Mod.refl nob w).alloc _).trans ((mod_of_below (hb2.mono (by simp))).mono (fun _ _ h => .inl h))
  clear hrow hfr hb2 HSD
  go_loopg [13] L (fun gk kv wr => ∃ k : Nat, k + gk = L ∧ kv = .int .i64 k ∧ Hid (PmR wr p D (S.crashTo keep k) v ob fb) ∧ Hid (Mod D w2 wr))
  case atStart => exact ⟨0, by omega, rfl, by rw [Pm.crashTo_zero]; exact HR2.out, Mod.refl _ _⟩
  case round =>
    obtain ⟨k, hk, rfl, HRK, HMK⟩ := hrel
    have HK0 := Lib.hid hk
    by_cases hlt : k < L
    · have hlt' : (k : Int) < (L : Int) := by omega
      obtain ⟨i, hi1, hi2, hi3, hi4⟩ := HGET.out k (by rw [← HPL.out, ← HL.out]; exact hlt)
      obtain ⟨x, hx⟩ := Option.isSome_iff_exists.1 hi3
      have hlast : S.last i = x := by unfold Pm.last; rw [hx]; rfl
      have HI3 := Lib.hid hi3
      have HI4 := Lib.hid hi4
      have HLAST := Lib.hid hlast
      obtain ⟨g2, rfl, hc2⟩ := HROW.out k i hi1
      have hg2 : ¬ D g2 := fun hd => by
        have h1 := HLT.out _ hd
        have h2 := HFR.out g2 rfl
        omega
      have hc3 := HMK.out.cell hc2 hg2
      obtain ⟨g, cap, rfl, -, -, hgs, hcn⟩ := HRK.out.now.pos (show 0 < (S.crashTo keep k).n from by show 0 < S.n; omega)
      obtain ⟨d0', d1, -, -, -, -⟩ := HRK.out.cells
      have d0 : wr.cell? ⟨p, 0, none⟩ = some (.slice (some ⟨g, 0, none⟩) S.n cap) := d0'
      have HRK2 : Hid (PmR wr.drew p D (S.crashTo keep k) (.slice (some ⟨g, 0, none⟩) S.n cap) ob fb) := HRK.out.mod (D0 := nob) ((Mod.refl nob wr).drew) (fun _ _ h => h)
      have hx0 := HRK.out.ok.old i x hx
      have hlk : (Instr.lookup 106 (.map (some ob)) (.int .i64 (i : Int)) false).run Try.prog { heap := wr.heap, tape := wr.tape, drawn := wr.drawn + 1, os := wr.os, output := wr.output } = .ok (.int .u64 x) { heap := wr.heap, tape := wr.tape, drawn := wr.drawn + 1, os := wr.os, output := wr.output } := HRK2.out.old.look_run hi2 hN hx
      have HLK := Lib.hid hlk
      have hf0 := (hcn i hi2).1
      have hf1 := (hcn i hi2).2
      have hiS : (i : Int) < (S.n : Int) := by omega
      have HHX := Lib.hid hx
      have HX0 := Lib.hid hx0
      clear hcn hi1 hi3 hi4 hlast hx hc2 hg2 hx0 d0' hlk
      rcases (show m = 0 ∨ 0 < m by omega) with hm0 | hm0
      · -- nothing is kept
        subst hm0
        have hb : Hid (back keep k = true) := by
          unfold Hid back
          rw [← HMM.out]
          rfl
        go_wp2_with fail
        go_still_tail 12, (by kernel_rfl)
        refine still_lookR rfl _ _ rfl rfl rfl HLK.out ?_
        repeat still_step
        refine wpStill_nil ?_
        go_wp2_with fail
        go_roundg (gk - 1)
        case measure => omega
        case rel =>
          refine ⟨k + 1, by omega, by go_num, ?_, (HMK.out.drew).setCell (.inl (HRK.out.dv g rfl)) _⟩
          rw [Pm.crashTo_back HI3.out HI4.out hb.out, HLAST.out]
          exact HRK2.out.setNow i x HX0.out.2.1 HX0.out.2.2
      · have hmod : ((k : Int) % (m : Int)) = ((k % m : Nat) : Int) := rfl
        obtain ⟨q, hq⟩ : ∃ q, q = k % m := ⟨_, rfl⟩
        have hqm : q < m := by rw [hq]; exact Nat.mod_lt _ hm0
        rw [← hq] at hmod
        obtain ⟨ka', kc', e1, -, -, hcell⟩ := HK.out
        simp only [Value.slice.injEq] at e1
        obtain ⟨rfl, -, rfl⟩ := e1
        obtain ⟨⟨gk2, ok2, rfl, hkc⟩, hc256⟩ := hcell q (by rw [← HMM.out]; exact hqm)
        obtain ⟨c, hcq⟩ : ∃ c, c = keep.getD q 0 := ⟨_, rfl⟩
        rw [← hcq] at hkc hc256
        have hkd2 : ¬ D gk2 := HKD.out (fun e => by have := HMM.out; rw [e] at this; simp at this; omega) gk2 rfl
        have hkc3 := HMK.out.cell (HM2.out.cell hkc (fun h => h)) hkd2
        have hback : back keep k = (c % 2 == 0) := by
          unfold back
          rw [← HMM.out, ← hq, ← hcq]
          have : (m == 0) = false := by simp; omega
          rw [this]
          rfl
        have HBK := Lib.hid hback
        have hq0 : (0 : Int) ≤ (q : Int) := Int.natCast_nonneg _
        have hq1 : (q : Int) < (m : Int) := by omega
        have hmz : ((m : Int) == 0) = false := by simp; omega
        clear hback hcell hkc hcq hq
        rcases (show c % 2 = 0 ∨ c % 2 = 1 by omega) with hc2 | hc2
        · have hb : Hid (back keep k = true) := by unfold Hid; rw [HBK.out, hc2]; rfl
          have hci : ((c : Int) % 2) = 0 := by omega
          go_wp2_with fail
          go_still_tail 12, (by kernel_rfl)
          refine still_lookR rfl _ _ rfl rfl rfl HLK.out ?_
          repeat still_step
          refine wpStill_nil ?_
          go_wp2_with fail
          go_roundg (gk - 1)
          case measure => omega
          case rel =>
            refine ⟨k + 1, by omega, by go_num, ?_, (HMK.out.drew).setCell (.inl (HRK.out.dv g rfl)) _⟩
            rw [Pm.crashTo_back HI3.out HI4.out hb.out, HLAST.out]
            exact HRK2.out.setNow i x HX0.out.2.1 HX0.out.2.2
        · have hb : Hid (back keep k = false) := by unfold Hid; rw [HBK.out, hc2]; rfl
          have hci : ((c : Int) % 2) = 1 := by omega
          go_wp2_with fail
          go_roundg (gk - 1)
          case measure => omega
          case rel =>
            refine ⟨k + 1, by omega, by go_num, ?_, HMK.out⟩
            rw [Pm.crashTo_stay HI3.out HI4.out hb.out]
            exact HRK.out
    · have hge : ¬ (k : Int) < (L : Int) := by omega
      obtain ⟨-, d1, -, -, -, -⟩ := HRK.out.cells
      go_wp2_with (first
        | (refine wp_clearR rfl _ rfl ob S.n S.old rfl HRK.out.old ?_; intro w3 hm3 hg3; have HR3 := Lib.hid (HRK.out.setOld hg3 hm3 ⟨HRK.out.ok.n, HRK.out.ok.now, (fun _ _ h => by cases h), HRK.out.ok.fl, HRK.out.ok.fuse⟩); have e3 := HR3.out.cells.2.2.1; have HM3 := Lib.hid (mod_of_grown hg3); clear hm3 hg3)
        | (refine wp_clearR rfl _ rfl fb S.n S.fl rfl HR3.out.fl ?_; intro w4 hm4 hg4; have HR4 := Lib.hid (HR3.out.setFl hg4 hm4 ⟨HR3.out.ok.n, HR3.out.ok.now, HR3.out.ok.old, (fun _ _ h => by cases h), HR3.out.ok.fuse⟩); obtain ⟨-, -, -, a3, -, a5⟩ := HR4.out.cells; have b3 := HR4.out.frozen 3; have b5 := HR4.out.frozen 5; have HM4 := Lib.hid (mod_of_grown hg4); clear hm4 hg4))
      go_end0
      have hkd : k = S.dirty := by
        have e1 := HPL.out
        rw [← HL.out] at e1
        have e2 := HK0.out
        show k = cnt S.old S.n
        omega
      subst hkd
      have hm : ∀ x y, Mod (fun b => b = p) w4 ((w4.setCell ⟨p, 3, none⟩ x).setCell ⟨p, 5, none⟩ y) := fun x y =>
        ((Mod.refl (fun b => b = p) w4).setCell (a := ⟨p, 3, none⟩) (.inl rfl) _).setCell (a := ⟨p, 5, none⟩) (.inl rfl) _
      have hD2 : Mod D w w2 := HM2.out.mono (fun _ _ h => h.elim)
      refine ⟨rfl, ⟨v, ob, fb, HR4.out.setHead (S' := S.crash keep) (hm _ _) ?_ rfl rfl rfl rfl (HR.out.ok.crash keep)⟩, ((((hD2.step HMK.out (fun _ h => h)).step HM3.out (fun b hb => by cases hb; exact HR.out.dob)).step HM4.out (fun b hb => by cases hb; exact HR.out.dfb)).step (hm _ _) (fun b hb => by subst hb; exact HR.out.dp))⟩
      rw [head6_set (head6_set HR4.out.head 3 _) 5 _]
      rfl
end Go.Proofs.Ytfpnmphmngdkdaa
