/-
  The law PmemPlays: the walk. No condition.
-/
import Derived.Test.YtfpnmphmngdkdaaRm4
import Derived.Test.YtfpnmphmngdkdaaRm3b
import Derived.Test.YtfpnmphmngdkdaaPm6
import Derived.Test.YtfpnmphmngdkdaaPm8
import Derived.Test.YtfpnmphmngdkdaaAwake1
import Derived.StillTailTactics
namespace Go.Proofs.Ytfpnmphmngdkdaa
open Go.ChangeShapes Go.WideShapes Go.ChangeAt Go.RowKit
set_option linter.unusedSimpArgs false
set_option linter.unusedVariables false

structure PlaysIn (w wr : World) (p q : Nat) (D1 D2 : Nat → Prop) (S : Pm) (R : Rm) (N j : Nat) : Prop where
  pm : PmAt wr p D1 S
  rm : RmAt wr q D2 R
  rel : Rel S R
  n : R.n = N
  deeds : R.deeds ≤ j
  below : Below w.heap.size w wr

/-- A crash in which nothing is kept. -/
theorem Pm.crash_nil {S : Pm} (hok : S.Ok) (j : Nat) : (S.crash []).now j = S.last j := by
  rw [Pm.crash_now hok]
  have hb : back [] (cnt S.old j) = true := rfl
  rw [hb]
  unfold Pm.last
  cases e : S.old j <;> simp

set_option maxRecDepth 20000 in
set_option maxHeartbeats 2000000 in
theorem law_plays1 {w : World} {v lv : Value} {xs : List Int} {l : List OpV} (hv : HoldsU w v xs) (hwf : ∀ z ∈ xs, 0 ≤ z ∧ z < 18446744073709551616) (hl : HoldsO1 w lv l) :
    Calls Try.prog 11 #[v, lv] w fun e w' => e = .returned (.bool true) ∧ Below w.heap.size w w' := by
  have HV := Lib.hid hv
  have HO := Lib.hid hl
  have HWF := Lib.hid hwf
  obtain ⟨ao, cap, rfl, hao, h1, h2, -⟩ := hv
  obtain ⟨oo, ocap, rfl, k1, k2, -⟩ := hl
  obtain ⟨m, hm⟩ : ∃ m, m = l.length := ⟨_, rfl⟩
  obtain ⟨N, hN⟩ : ∃ N, N = xs.length := ⟨_, rfl⟩
  rw [← hm] at k1 HO ⊢
  rw [← hN] at h1 HV ⊢
  have HMM := Lib.hid hm
  have HNN := Lib.hid hN
  have HAW := fun w => Lib.hid (awake1 w)
  clear hm hN hwf hao
  by_cases hN1 : 100 < N
  · have hNi : (100 : Int) < (N : Int) := by omega
    go_enter Try.func11, Try.ntmps11
    go_wp2_with fail
    refine (HAW _).out.mono ?_
    rintro e w1 ⟨rfl, hb1⟩
    have HB1 := Lib.hid hb1
    clear hb1
    go_wp2_with fail
    refine (HAW _).out.mono ?_
    rintro e w2 ⟨rfl, hb2⟩
    go_wp2
    go_ret
    exact ⟨rfl, HB1.out.trans (hb2.mono HB1.out.size)⟩
  · have hNi : ¬ (100 : Int) < (N : Int) := by omega
    go_enter Try.func11, Try.ntmps11
    go_wp2_with fail
    refine (HAW _).out.mono ?_
    rintro e w1 ⟨rfl, hb1⟩
    have HB1 := Lib.hid hb1
    have hfew := few1 (HO.out.below HB1.out) 150
    clear hb1
    go_wp2_with fail
    refine hfew.mono ?_
    rintro e w2 ⟨rfl, b, rfl, hbb⟩
    have HBB := Lib.hid hbb
    clear hfew hbb
    cases b with
    | false =>
      go_wp2_with fail
      refine (HAW _).out.mono ?_
      rintro e w2 ⟨rfl, hb2⟩
      go_wp2
      go_ret
      exact ⟨rfl, HB1.out.trans (hb2.mono HB1.out.size)⟩
    | true =>
      obtain ⟨hl150, -⟩ := HBB.out rfl
      rw [← HMM.out] at hl150
      clear HBB
      go_wp2_with fail
      refine (pm_of (HV.out.below HB1.out) (by rw [← HNN.out]; omega) HWF.out).mono ?_
      rintro e w2 ⟨p, rfl, hp2, hb2⟩
      have HP2 := Lib.hid hp2
      have HB2 : Hid (Below w.heap.size w w2) := HB1.out.trans (hb2.mono HB1.out.size)
      clear hp2
      go_wp2_with fail
      refine (rm_new (HV.out.below HB2.out) (by rw [← HNN.out]; omega) HWF.out).mono ?_
      rintro e w3 ⟨q, rfl, hq3, hb3⟩
      have HB3 : Hid (Below w.heap.size w w3) := HB2.out.trans (hb3.mono HB2.out.size)
      have HD1 : Hid (∀ b, grow nob w1 w2 b → w.heap.size ≤ b) := by
        intro b hb
        have := HB1.out.size
        rcases hb with hb | hb
        · exact hb.elim
        · omega
      have HDD : Hid (∀ b, grow nob w1 w2 b → ¬ grow nob w2 w3 b) := by
        intro b hb hb'
        rcases hb with hb | hb
        · exact hb
        · rcases hb' with hb' | hb'
          · exact hb'
          · omega
      have HD2 : Hid (∀ b, grow nob w2 w3 b → w.heap.size ≤ b) := by
        intro b hb
        have := HB2.out.size
        rcases hb with hb | hb
        · exact hb.elim
        · omega
      have HIN0 : Hid (PlaysIn w w3 p q (grow nob w1 w2) (grow nob w2 w3) (Pm.new xs) (Rm.new xs) N 0) :=
        ⟨HP2.out.mod (mod_of_below hb3) (fun _ _ h => h), hq3, Rel.new xs (by rw [← HNN.out]; omega), HNN.out.symm, Nat.le_refl _, HB3.out⟩
      generalize grow nob w1 w2 = D1 at *
      generalize grow nob w2 w3 = D2 at *
      clear hq3 hb3 hb2 HP2 HB1 HB2 HB3
      have hm150 : m ≤ 150 := by omega
      go_wp2_with fail
      go_loopg [7] m (fun gk iv wr => ∃ (j : Nat) (S : Pm) (R : Rm), j + gk = m ∧ iv = .int .i64 j ∧ Hid (PlaysIn w wr p q D1 D2 S R N j))
      case atStart => exact ⟨0, _, _, by omega, rfl, HIN0.out⟩
      case round =>
        obtain ⟨j, S, R, hj, rfl, HI⟩ := hrel
        by_cases hlt : j < m
        · have hlt1 : (j : Int) < (m : Int) := by omega
          obtain ⟨ao', cap', e1, -, -, hops⟩ := HO.out
          simp only [Value.slice.injEq] at e1
          obtain ⟨rfl, -, rfl⟩ := e1
          obtain ⟨g, o, kv, rfl, hop0⟩ := hops j (by rw [← HMM.out]; exact hlt)
          have hop := hop0.below HI.out.below
          have d0 := hop.kind
          have d1 := hop.i
          have d2 := hop.n
          have d3 := hop.word
          have d4 := hop.keep
          have HKB := Lib.hid hop.bytes
          have HOK := Lib.hid hop.ok
          have HKL := Lib.hid hop0.bytes.lt
          generalize l.getD j default = z at *
          obtain ⟨ka, kc, rfl, -, -, -⟩ := hop.bytes
          obtain ⟨kq, hkq⟩ : ∃ kq, kq = z.keep.length := ⟨_, rfl⟩
          rw [← hkq] at d4 HKB HKL
          clear hops hop hop0 hkq
          go_upto_block 2 with (fail)
          have hbx := boxed_new wr #[Value.int .u8 (z.kind : Nat), .int .i64 z.i, .int .i64 z.n, .int .u64 z.word, .slice ka kq kc] 69 (0, 0)
          have HMA : Hid (Mod nob wr (wr.alloc (.cells #[Value.int .u8 (z.kind : Nat), .int .i64 z.i, .int .i64 z.n, .int .u64 z.word, .slice ka kq kc] 69))) := (Mod.refl nob wr).alloc _
          generalize wr.alloc (.cells #[Value.int .u8 (z.kind : Nat), .int .i64 z.i, .int .i64 z.n, .int .u64 z.word, .slice ka kq kc] 69) = wa at hbx HMA ⊢
          have b0 : wa.cell? ⟨wr.heap.size, 0, none⟩ = some (.int .u8 (z.kind : Nat)) := hbx 0
          have b1 : wa.cell? ⟨wr.heap.size, 1, none⟩ = some (.int .i64 z.i) := hbx 1
          have b2 : wa.cell? ⟨wr.heap.size, 2, none⟩ = some (.int .i64 z.n) := hbx 2
          have b3 : wa.cell? ⟨wr.heap.size, 3, none⟩ = some (.int .u64 z.word) := hbx 3
          have b4 : wa.cell? ⟨wr.heap.size, 4, none⟩ = some (.slice ka kq kc) := hbx 4
          have HBX := Lib.hid hbx
          have HPM := Lib.hid (HI.out.pm.mod HMA.out (fun _ _ h => h))
          have HRM := Lib.hid (HI.out.rm.mod HMA.out (fun _ _ h => h))
          have HKA := Lib.hid (HKB.out.mod HMA.out (fun _ _ _ h => h))
          have HBA : Hid (Below w.heap.size w wa) := HI.out.below.trans (HMA.out.below HI.out.below.size (fun _ h => h.elim))
          have hn1 : Hid (¬ D1 wr.heap.size ∧ ¬ D2 wr.heap.size) := ⟨fun h => by have := HI.out.pm.lt _ h; omega, fun h => by have := HI.out.rm.lt _ h; omega⟩
          have hk1 : Hid (z.keep ≠ [] → ∀ g, (Value.slice ka kq kc).ownBlock = some g → ¬ D1 g) := fun h g hg hd => by have h1 := HKL.out h g hg; have h2 := HD1.out g hd; omega
          have hk2 : Hid (z.keep ≠ [] → ∀ g, (Value.slice ka kq kc).ownBlock = some g → ¬ D2 g) := fun h g hg hd => by have h1 := HKL.out h g hg; have h2 := HD2.out g hd; omega
          have hsd : S.deeds < 4611686018427387904 := by have := HI.out.deeds; have := HI.out.rel.deeds; omega
          have hwd := HOK.out.word
          generalize wr.heap.size = B at *
          clear hbx d0 d1 d2 d3 d4
          go_cut [9, 10, 47] (fun gv ev _ wc => gv = .int .u64 (S.got z) ∧ ev = .int .i64 (S.err z) ∧ Hid (PmAt wc p D1 (S.step z)) ∧ Hid (Mod D1 wa wc))
          case first =>
            have h6 := Nat.mod_lt z.kind (show 0 < 6 by omega)
            have HH6 := Lib.hid h6
            clear h6
            by_cases k0 : z.kind % 6 = 0
            · have e1 : S.got z = 0 := by unfold Pm.got; rw [if_neg (by omega)]
              have e2 : S.err z = S.may z.i := by unfold Pm.err; rw [if_pos (by omega)]
              have e3 : S.step z = S.store z.i z.word := by unfold Pm.step; rw [if_pos k0]
              have E := Lib.hid (And.intro e1 (And.intro e2 e3))
              have hki : ((z.kind : Nat) : Int) % 6 = 0 := by omega
              clear e1 e2 e3 k0
              go_wp2_with fail
              refine (pm_store HPM.out hsd z.i z.word hwd.1 hwd.2).mono ?_
              rintro e w5 ⟨rfl, h5, m5⟩
              go_wp2_with fail
              go_meet
              case rel => exact ⟨by rw [E.out.1], by rw [E.out.2.1], by rw [E.out.2.2]; exact h5, m5⟩
            by_cases k1 : z.kind % 6 = 1
            · have e1 : S.got z = S.load z.i := by unfold Pm.got; rw [if_pos k1]
              have e2 : S.err z = S.may z.i := by unfold Pm.err; rw [if_pos (by omega)]
              have e3 : S.step z = S := by unfold Pm.step; rw [if_neg k0, if_pos k1]
              have E := Lib.hid (And.intro e1 (And.intro e2 e3))
              have hki : ((z.kind : Nat) : Int) % 6 = 1 := by omega
              clear e1 e2 e3 k0 k1
              go_wp2_with fail
              refine (pm_load HPM.out z.i).mono ?_
              rintro e w5 ⟨rfl, rfl⟩
              go_wp2_with fail
              go_meet
              case rel => exact ⟨by rw [E.out.1], by rw [E.out.2.1], by rw [E.out.2.2]; exact HPM.out, Mod.refl _ _⟩
            by_cases k2 : z.kind % 6 = 2
            · have e1 : S.got z = 0 := by unfold Pm.got; rw [if_neg (by omega)]
              have e2 : S.err z = S.may z.i := by unfold Pm.err; rw [if_pos (by omega)]
              have e3 : S.step z = S.flush z.i := by unfold Pm.step; rw [if_neg k0, if_neg k1, if_pos k2]
              have E := Lib.hid (And.intro e1 (And.intro e2 e3))
              have hki : ((z.kind : Nat) : Int) % 6 = 2 := by omega
              clear e1 e2 e3 k0 k1 k2
              go_wp2_with fail
              refine (pm_flush HPM.out hsd z.i).mono ?_
              rintro e w5 ⟨rfl, h5, m5⟩
              go_wp2_with fail
              go_meet
              case rel => exact ⟨by rw [E.out.1], by rw [E.out.2.1], by rw [E.out.2.2]; exact h5, m5⟩
            by_cases k3 : z.kind % 6 = 3
            · have e1 : S.got z = 0 := by unfold Pm.got; rw [if_neg (by omega)]
              have e2 : S.err z = S.fenceE := by unfold Pm.err; rw [if_neg (by omega), if_pos k3]
              have e3 : S.step z = S.fence := by unfold Pm.step; rw [if_neg k0, if_neg k1, if_neg k2, if_pos k3]
              have E := Lib.hid (And.intro e1 (And.intro e2 e3))
              have hki : ((z.kind : Nat) : Int) % 6 = 3 := by omega
              clear e1 e2 e3 k0 k1 k2 k3
              go_wp2_with fail
              refine (pm_fence HPM.out hsd).mono ?_
              rintro e w5 ⟨rfl, h5, m5⟩
              go_wp2_with fail
              go_meet
              case rel => exact ⟨by rw [E.out.1], by rw [E.out.2.1], by rw [E.out.2.2]; exact h5, m5⟩
            by_cases k4 : z.kind % 6 = 4
            · have e1 : S.got z = 0 := by unfold Pm.got; rw [if_neg (by omega)]
              have e2 : S.err z = 0 := by unfold Pm.err; rw [if_neg (by omega), if_neg k3]
              have e3 : S.step z = S.blow z.n := by unfold Pm.step; rw [if_neg k0, if_neg k1, if_neg k2, if_neg k3, if_pos k4]
              have E := Lib.hid (And.intro e1 (And.intro e2 e3))
              have hki : ((z.kind : Nat) : Int) % 6 = 4 := by omega
              have hzn := HOK.out.n.2
              clear e1 e2 e3 k0 k1 k2 k3 k4
              go_wp2_with fail
              refine (pm_blow HPM.out z.n hzn).mono ?_
              rintro e w5 ⟨rfl, h5, m5⟩
              go_wp2_with fail
              go_meet
              case rel => exact ⟨by rw [E.out.1], by rw [E.out.2.1], by rw [E.out.2.2]; exact h5, m5⟩
            · have k5 : z.kind % 6 = 5 := by have := HH6.out; omega
              have e1 : S.got z = 0 := by unfold Pm.got; rw [if_neg (by omega)]
              have e2 : S.err z = 0 := by unfold Pm.err; rw [if_neg (by omega), if_neg k3]
              have e3 : S.step z = S.crash z.keep := by unfold Pm.step; rw [if_neg k0, if_neg k1, if_neg k2, if_neg k3, if_neg k4]
              have E := Lib.hid (And.intro e1 (And.intro e2 e3))
              have hki : ((z.kind : Nat) : Int) % 6 = 5 := by omega
              clear e1 e2 e3 k0 k1 k2 k3 k4 k5
              go_wp2_with fail
              refine (pm_crash HPM.out HKA.out hk1.out).mono ?_
              rintro e w5 ⟨rfl, h5, m5⟩
              go_wp2_with fail
              go_meet
              case rel => exact ⟨by rw [E.out.1], by rw [E.out.2.1], by rw [E.out.2.2]; exact h5, m5⟩
          case rest =>
            obtain ⟨rfl, rfl, HPC, HMC⟩ := hcut
            have c0 := HMC.out.cell b0 hn1.out.1
            have c1 := HMC.out.cell b1 hn1.out.1
            have c2 := HMC.out.cell b2 hn1.out.1
            have c3 := HMC.out.cell b3 hn1.out.1
            have c4 := HMC.out.cell b4 hn1.out.1
            have HDO := Lib.hid (rm_do (HRM.out.mod HMC.out (fun b h2 h1 => HDD.out b h1 h2)) z (.slice ka kq kc) HOK.out (by have := HI.out.deeds; omega) (HKA.out.mod HMC.out hk1.out) hk2.out)
            have hrel2 := HI.out.rel.step HI.out.pm.ok z
            have hgot := HI.out.rel.got z
            have herr := HI.out.rel.err z
            unfold opVal at HDO
            rw [hgot, herr]
            have HBC : Hid (Below w.heap.size w wc) := HBA.out.trans (HMC.out.below HBA.out.size HD1.out)
            have HREL := Lib.hid hrel2
            clear b0 b1 b2 b3 b4 hrel2 hgot herr
            go_wp2_with fail
            refine HDO.out.mono ?_
            intro e w6 hpost
            obtain ⟨rfl, h6, m6⟩ := hpost
            have HP6 := Lib.hid (HPC.out.mod m6 (fun b h1 h2 => HDD.out b h1 h2))
            have HR6 := Lib.hid h6
            have HB6 : Hid (Below w.heap.size w w6) := HBC.out.trans (m6.below HBC.out.size HD2.out)
            obtain ⟨nv, lvv, fv, hr6⟩ := h6
            obtain ⟨-, -, -, q3, -⟩ := hr6.cells
            have hde := HREL.out.deeds
            have hdi := HREL.out.dirty
            have HNB : Hid ((R.step z).n = N ∧ (R.step z).deeds ≤ j + 1) := ⟨by rw [Rm.step_n]; exact HI.out.n, by have := Rm.step_deeds R z; have := HI.out.deeds; omega⟩
            have HG1 : Hid (∀ n, Calls Try.prog 20 #[.pointer (some ⟨p, 0, none⟩)] (w6.drewN n) fun e w' => e = .returned (.int .i64 ((R.step z).deeds : Nat)) ∧ w' = w6.drewN n) := by
              intro n
              have := pm_deeds (HP6.out.mod (D0 := nob) ((Mod.refl nob w6).drewN n) (fun _ _ h => h))
              rw [hde] at this
              exact this.mono fun e w' ⟨h1, h2⟩ => ⟨h1, h2.symm⟩
            have HG2 : Hid (∀ n, Calls Try.prog 50 #[.pointer (some ⟨p, 0, none⟩)] (w6.drewN n) fun e w' => e = .returned (.int .i64 ((R.step z).dirty : Nat)) ∧ w' = w6.drewN n) := by
              intro n
              have := pm_dirty (HP6.out.mod (D0 := nob) ((Mod.refl nob w6).drewN n) (fun _ _ h => h))
              rw [hdi] at this
              exact this.mono fun e w' ⟨h1, h2⟩ => ⟨h1, h2.symm⟩
            have HG3 : Hid (∀ n, Calls Try.prog 55 #[.pointer (some ⟨q, 0, none⟩)] (w6.drewN n) fun e w' => e = .returned (.int .i64 ((R.step z).dirty : Nat)) ∧ ∃ m, w' = (w6.drewN n).drewN m) :=
              fun n => rm_dirty (HR6.out.mod (D0 := nob) ((Mod.refl nob w6).drewN n) (fun _ _ h => h))
            clear hr6 hde hdi m6 c0 c1 c2 c3 c4 HDO
            generalize R.got z = gt at *
            generalize R.err z = er at *
            generalize (R.step z).dirty = dt at *
            generalize hdd : (R.step z).deeds = dd at *
            have hgg : (gt != gt) = false := by simp
            have hee : (er != er) = false := by simp
            have htt : ((dt : Int) != (dt : Int)) = false := by simp
            have hddd : ((dd : Int) != (dd : Int)) = false := by simp
            have HDDD := Lib.hid hdd
            clear hdd
            go_wp2_with fail
            go_quiet ((first | (go_at_call 20; exact Calls.quiet_of_same (HG1.out _)) | (go_at_call 50; exact Calls.quiet_of_same (HG2.out _)) | (go_at_call 55; exact Calls.quiet_of (HG3.out _))))
            go_wp2_with fail
            go_roundg (gk - 1)
            case measure => omega
            case rel => exact ⟨j + 1, S.step z, R.step z, by omega, by go_num, HP6.out.mod (D0 := nob) ((Mod.refl nob w6).drewN nq) (fun _ _ h => h), HR6.out.mod (D0 := nob) ((Mod.refl nob w6).drewN nq) (fun _ _ h => h), HREL.out, HNB.out.1, (by rw [HDDD.out]; exact HNB.out.2), ⟨HB6.out.os, HB6.out.tape, HB6.out.output, HB6.out.size, HB6.out.block⟩⟩
        · have hge : ¬ (j : Int) < (m : Int) := by omega
          go_wp2_with fail
          refine (pm_crash HI.out.pm (HoldsB.nil _) (fun h => absurd rfl h)).mono ?_
          rintro e w6 ⟨rfl, h6, m6⟩
          have HB6 : Hid (Below w.heap.size w w6) := HI.out.below.trans (m6.below HI.out.below.size HD1.out)
          have HR6 := Lib.hid (HI.out.rm.mod m6 (fun b h2 h1 => HDD.out b h1 h2))
          have HL6 : Hid (∀ k : Nat, k < N → Calls Try.prog 49 #[.pointer (some ⟨p, 0, none⟩), .int .i64 (k : Int)] w6 fun e w' => e = .returned (.tuple #[.int .u64 (R.last k), .int .i64 0]) ∧ w6 = w') := by
            intro k hk
            have hld := pm_load h6 (k : Int)
            have hn : (S.crash []).n = N := by rw [show (S.crash []).n = S.n from rfl, HI.out.rel.n, HI.out.n]
            have hm : (S.crash []).may (k : Int) = 0 := by
              unfold Pm.may
              rw [show (S.crash []).gone = false from rfl, hn, if_neg (by simp), if_neg (by omega)]
            have hl : (S.crash []).load (k : Int) = R.last k := by
              unfold Pm.load
              rw [if_pos hm]
              show (S.crash []).now k = _
              rw [Pm.crash_nil HI.out.pm.ok, HI.out.rel.last (by rw [HI.out.n]; exact hk)]
            rw [hm, hl] at hld
            exact hld
          have hln := pm_len h6
          rw [show (S.crash []).n = N by rw [show (S.crash []).n = S.n from rfl, HI.out.rel.n, HI.out.n]] at hln
          have HLN := Lib.hid hln
          have hRn := HI.out.n
          have HRn := Lib.hid hRn
          clear h6 m6 hln hRn
          go_wp2_with fail
          go_loopg [15] N (fun gk kv wr => ∃ i : Nat, i + gk = N ∧ kv = .int .i64 i ∧ w6 = wr)
          case atStart => exact ⟨0, by omega, rfl, rfl⟩
          case round =>
            obtain ⟨i, hi, rfl, rfl⟩ := hrel
            by_cases hlt : i < N
            · have hld := Lib.hid (HL6.out i hlt)
              have hr6 := HR6.out
              obtain ⟨nv, lvv, fv, hr6⟩ := hr6
              obtain ⟨-, q1, -, -, -⟩ := hr6.cells
              obtain ⟨gl, capl, rfl, k3, k4, -, hc2⟩ := hr6.last.pos (by rw [HRn.out]; omega)
              obtain ⟨a1, -⟩ := hc2 i (by rw [HRn.out]; exact hlt)
              rw [HRn.out] at q1
              have hi5 : (i : Int) < (N : Int) := by omega
              have hi0 : (0 : Int) ≤ (i : Int) := Int.natCast_nonneg _
              generalize R.last i = y at a1 hld
              clear hr6 hc2 k3 k4
              go_wp2_with fail
              refine hld.out.mono ?_
              rintro e wx ⟨rfl, rfl⟩
              go_wp2_with fail
              go_roundg (gk - 1)
              case measure => omega
              case rel => exact ⟨i + 1, by omega, by go_num, rfl⟩
            · obtain rfl : i = N := by omega
              go_wp2_with fail
              refine HLN.out.mono ?_
              rintro e wx ⟨rfl, rfl⟩
              go_wp2
              go_ret
              exact ⟨rfl, HB6.out⟩
end Go.Proofs.Ytfpnmphmngdkdaa
