/-
  The law PmemLasts: the walk. No condition.
-/
import Derived.Test.YtfpnmphmngdkdaaPmemLastsM
import Derived.Test.YtfpnmphmngdkdaaPm8
import Derived.Test.YtfpnmphmngdkdaaOp1
import Derived.Test.YtfpnmphmngdkdaaAwake1
namespace Go.Proofs.Ytfpnmphmngdkdaa
open Go.ChangeShapes Go.WideShapes Go.ChangeAt Go.RowKit
set_option linter.unusedSimpArgs false
set_option linter.unusedVariables false

set_option maxRecDepth 20000 in
set_option maxHeartbeats 1000000 in
theorem law_lasts0 {w : World} {v : Value} {l : List OpV} (hv : HoldsO1 w v l) (x : OpV) (hx : x.Ok) {kv : Value} (hkv : HoldsB w kv x.keep) :
    Calls Try.prog 10 #[.agg #[.int .u8 (x.kind : Nat), .int .i64 x.i, .int .i64 x.n, .int .u64 x.word, kv], v] w fun e w' => e = .returned (.bool true) ∧ Below w.heap.size w w' := by
  have HV := Lib.hid hv
  have HKV := Lib.hid hkv
  obtain ⟨ao, cap, rfl, h1, h2, -⟩ := hv
  obtain ⟨ka, kc, rfl, k1, k2, -⟩ := hkv
  obtain ⟨m, hm⟩ : ∃ m, m = l.length := ⟨_, rfl⟩
  obtain ⟨q, hq⟩ : ∃ q, q = x.keep.length := ⟨_, rfl⟩
  rw [← hm] at h1 HV ⊢
  rw [← hq] at k1 HKV ⊢
  have HMM := Lib.hid hm
  have HQQ := Lib.hid hq
  have hxw := hx.word
  have hxn := hx.n
  have HAW := fun w => Lib.hid (awake1 w)
  have HK : ∃ k : Nat, k = ((x.n % 256) % 100).toNat := ⟨_, rfl⟩
  obtain ⟨k, hk⟩ := HK
  have hkk : (x.n % 256) % 100 = (k : Int) := by omega
  have hk1 : k < 100 := by omega
  have hbox := boxed_new w #[.int .u8 (x.kind : Nat), .int .i64 x.i, .int .i64 x.n, .int .u64 x.word, .slice ka q kc] 69 (0, 0)
  have hbx : Below w.heap.size w (w.alloc (.cells #[.int .u8 (x.kind : Nat), .int .i64 x.i, .int .i64 x.n, .int .u64 x.word, .slice ka q kc] 69)) := (Below.refl _ w).alloc (Nat.le_refl _) _
  have b2 := hbox 2
  have b3 := hbox 3
  have b4 := hbox 4
  simp at b2 b3 b4
  have HBX := Lib.hid hbx
  clear hm hq hx hk hbox hbx
  go_enter Try.func10, Try.ntmps10
  go_wp2_with fail
  go_region
  go_wp2_with fail
  refine (HAW _).out.mono ?_
  rintro e w1 ⟨rfl, hb1⟩
  have HB1 : Hid (Below w.heap.size w w1) := HBX.out.drew.trans (hb1.mono HBX.out.drew.size)
  have hfew := few1 (HV.out.below HB1.out) 60
  clear hb1
  go_wp2_with fail
  refine hfew.mono ?_
  rintro e w2 ⟨rfl, b, rfl, hbb⟩
  have HBB := Lib.hid hbb
  clear hfew hbb
  cases b with
  | false =>
    go_wp2_with fail
    refine (HAW _).out.mono ?_
    rintro e w2 ⟨rfl, hb2⟩
    go_wp2
    go_ret
    exact ⟨rfl, HB1.out.trans (hb2.mono HB1.out.size)⟩
  | true =>
    obtain ⟨hl60, -⟩ := HBB.out rfl
    rw [← HMM.out] at hl60
    clear HBB
    by_cases hq : 100 < q
    · have hqi : (100 : Int) < (q : Int) := by omega
      go_wp2_with fail
      refine (HAW _).out.mono ?_
      rintro e w2 ⟨rfl, hb2⟩
      go_wp2
      go_ret
      exact ⟨rfl, HB1.out.trans (hb2.mono HB1.out.size)⟩
    · have hqi : ¬ (100 : Int) < (q : Int) := by omega
      have hx0 : 0 ≤ x.n % 256 := by omega
      have hx1 : x.n % 256 < 256 := by omega
      generalize hy : x.n % 256 = y at *
      clear hy
      go_wp2_with fail
      refine (pm_new 100 w1).mono ?_
      rintro e w2 ⟨p, rfl, hp2, hb2⟩
      rw [show min ((100 : Int)).toNat 10000 = 100 from rfl] at hp2
      have HSTILL := Lib.hid (Pm.Still.new 100 (by omega))
      have hfl0 : (Pm.new (List.replicate 100 0)).fl k = none := rfl
      have hde0 : (Pm.new (List.replicate 100 0)).deeds = 0 := rfl
      have HFL0 := Lib.hid hfl0
      have HDE0 := Lib.hid hde0
      have HP2 := Lib.hid hp2
      have HB2 : Hid (Below w.heap.size w w2) := HB1.out.trans (hb2.mono HB1.out.size)
      have HDW : Hid (∀ g, grow nob w1 w2 g → w.heap.size ≤ g) := by
        intro g hd
        have := HB1.out.size
        rcases hd with hd | hd
        · exact hd.elim
        · omega
      generalize Pm.new (List.replicate 100 0) = S at HSTILL HFL0 HDE0 HP2
      generalize grow nob w1 w2 = D at HP2 HDW
      clear hp2 hb2 hfl0 hde0
      go_wp2_with fail
      refine (pm_store HP2.out (by rw [HDE0.out]; decide) (k : Int) x.word hxw.1 hxw.2).mono ?_
      rintro e w3 ⟨rfl, h3, m3⟩
      have HP3 := Lib.hid h3
      have HM3 : Hid (Mod D w2 w3) := m3
      clear h3 m3
      go_wp2_with fail
      have hd3 := Pm.store_deeds S k x.word
      rw [HDE0.out] at hd3
      refine (pm_flush HP3.out (by omega) (k : Int)).mono ?_
      rintro e w4 ⟨rfl, h4, m4⟩
      have HP4 := Lib.hid h4
      have HM4 : Hid (Mod D w2 w4) := HM3.out.step m4 (fun _ h => h)
      clear h4 m4
      go_wp2_with fail
      have hd4 := Pm.flush_deeds (S.store k x.word) k
      refine (pm_fence HP4.out (by omega)).mono ?_
      rintro e w5 ⟨rfl, h5, m5⟩
      have HP5 := Lib.hid h5
      have HM5 : Hid (Mod D w2 w5) := HM4.out.step m5 (fun _ h => h)
      have hd5 := Pm.fence_deeds ((S.store k x.word).flush k)
      have hfast := Pm.fast_of HSTILL.out HFL0.out hk1 x.word
      have hstill := ((HSTILL.out.store k x.word).flush k).fence
      have HF5 := Lib.hid hfast
      have HS5 := Lib.hid hstill
      have HD5 : Hid ((((S.store k x.word).flush k).fence).deeds ≤ 3) := by unfold Hid; omega
      generalize ((S.store k x.word).flush k).fence = T at HP5 HF5 HS5 HD5
      clear h5 m5 hd3 hd4 hd5 hfast hstill HSTILL HFL0 HDE0 HP2 HP3 HP4 HM3 HM4
      have hm4 : m ≤ 60 := by omega
      go_wp2_with fail
      go_loopg [10] m (fun gk kv wr => ∃ j : Nat, j + gk = m ∧ kv = .int .i64 j ∧ ∃ U : Pm, Hid (PmAt wr p D U) ∧ Hid (U.Fast k x.word) ∧ Hid (U.Still 100) ∧ Hid (U.deeds ≤ 3 + j) ∧ Hid (Mod D w2 wr))
      case atStart => exact ⟨0, by omega, rfl, T, HP5.out, HF5.out, HS5.out, HD5.out, HM5.out⟩
      case round =>
        obtain ⟨j, hj, rfl, U, HPU, HFU, HSU, HDU, HMU⟩ := hrel
        have HBU : Hid (Below w.heap.size w wr) := HB2.out.trans (HMU.out.below HB2.out.size HDW.out)
        by_cases hlt : j < m
        · have hlt1 : (j : Int) < (m : Int) := by omega
          obtain ⟨ao', cap', e1, -, -, hops⟩ := HV.out.below HBU.out
          simp only [Value.slice.injEq] at e1
          obtain ⟨rfl, -, rfl⟩ := e1
          obtain ⟨g, o, kw, rfl, hop⟩ := hops j (by rw [← HMM.out]; exact hlt)
          have d1 := hop.i
          have d3 := hop.word
          obtain ⟨z, hz⟩ : ∃ z, z = l.getD j default := ⟨_, rfl⟩
          rw [← hz] at hop d1 d3
          have hzw := hop.ok.word
          obtain ⟨zi, hzi⟩ : ∃ zi, zi = z.i := ⟨_, rfl⟩
          obtain ⟨zw, hzw2⟩ : ∃ zw, zw = z.word := ⟨_, rfl⟩
          rw [← hzi] at d1
          rw [← hzw2] at d3 hzw
          clear hops hop hz hzi hzw2
          by_cases hne : zi = (k : Int)
          · have hb : (zi != (k : Int)) = false := by simpa using hne
            subst hne
            go_wp2_with fail
            go_roundg (gk - 1)
            case measure => omega
            case rel => exact ⟨j + 1, by omega, by go_num, U, HPU, HFU, HSU, (by have := HDU.out; unfold Hid; omega), HMU⟩
          · have hb : (zi != (k : Int)) = true := by simpa using hne
            have HNE := Lib.hid hne
            clear hne
            go_wp2_with fail
            go_still_tail 11, (by kernel_rfl)
            have HPV : Hid (PmAt wr.drew p D U) := HPU.out.mod (D0 := nob) ((Mod.refl nob wr).drew) (fun _ _ h => h)
            go_wp2_with (go_at_call 45; refine (pm_store HPV.out (by have := HDU.out; omega) zi zw hzw.1 hzw.2).mono ?_; rintro e w6 ⟨rfl, h6, m6⟩)
            go_roundg (gk - 1)
            case measure => omega
            case rel => exact ⟨j + 1, by omega, by go_num, U.store zi zw, h6, HFU.out.store zi zw HNE.out, HSU.out.store zi zw, (by have := HDU.out; have := Pm.store_deeds U zi zw; unfold Hid; omega), (HMU.out.drew).step m6 (fun _ h => h)⟩
        · have hge : ¬ (j : Int) < (m : Int) := by omega
          go_wp2_with fail
          refine (pm_crash HPU.out (HKV.out.below HBU.out) (fun hne g hg hd => by have h1 := HDW.out g hd; have h2 := HKV.out.lt hne g hg; omega)).mono ?_
          rintro e w6 ⟨rfl, h6, m6⟩
          have hld := pm_load h6 (k : Int)
          have hdi := pm_dirty h6
          rw [Pm.crash_dirty] at hdi
          have hs6 := HSU.out.crash x.keep
          have hm6 := hs6.may_in k hk1
          have hv6 : (U.crash x.keep).load (k : Int) = x.word := by
            unfold Pm.load
            rw [if_pos hm6]
            exact HFU.out.crash HPU.out.ok x.keep
          rw [hm6, hv6] at hld
          have HLD := Lib.hid hld
          have HDI := Lib.hid hdi
          have HB6 : Hid (Below w.heap.size w w6) := HBU.out.trans (m6.below HBU.out.size HDW.out)
          clear h6 m6 hld hdi hs6 hm6 hv6
          go_wp2_with fail
          refine HLD.out.mono ?_
          rintro e w7 ⟨rfl, rfl⟩
          go_wp2_with fail
          refine HDI.out.mono ?_
          rintro e w7 ⟨rfl, rfl⟩
          go_wp2
          go_ret
          exact ⟨rfl, HB6.out⟩
end Go.Proofs.Ytfpnmphmngdkdaa
