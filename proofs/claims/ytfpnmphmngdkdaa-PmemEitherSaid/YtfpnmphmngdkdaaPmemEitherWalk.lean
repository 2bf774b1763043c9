/-
  The law PmemEither: the walk. No condition.
-/
import Derived.Test.YtfpnmphmngdkdaaPmemEitherM
import Derived.Test.YtfpnmphmngdkdaaPm8
import Derived.Test.YtfpnmphmngdkdaaOp1
import Derived.Test.YtfpnmphmngdkdaaAwake1
import Derived.Test.YtfpnmphmngdkdaaOwnW
import Derived.StillTailTactics
namespace Go.Proofs.Ytfpnmphmngdkdaa
open Go.ChangeShapes Go.WideShapes Go.ChangeAt Go.RowKit
set_option linter.unusedSimpArgs false
set_option linter.unusedVariables false

structure EitherIn (w wr : World) (p : Nat) (D : Nat → Prop) (gn d : Nat) (U : Pm) (last now : List Int) (gl cl : Nat) : Prop where
  pm : PmAt wr p D U
  e : Either U last now
  l : ∃ B, w.heap.size ≤ B ∧ OwnW wr B gl 50 cl last
  n : ∃ B, w.heap.size ≤ B ∧ OwnW wr B gn 50 50 now
  ne : gl ≠ gn
  dl : ¬ D gl
  dn : ¬ D gn
  deeds : U.deeds ≤ d
  below : Below w.heap.size w wr

/-- What holds at the loop's head: the slice of the words that last is lv. -/
def EitherAt (w wr : World) (p : Nat) (D : Nat → Prop) (gn d : Nat) (lv : Value) : Prop :=
  ∃ U last now gl cl, lv = .slice (some ⟨gl, 0, none⟩) 50 cl ∧ EitherIn w wr p D gn d U last now gl cl

/-- A world in which the memory alone has turned. -/
theorem EitherIn.turn {w wr w' : World} {p : Nat} {D : Nat → Prop} {gn d d' : Nat} {U U' : Pm} {last now : List Int} {gl cl : Nat} (h : EitherIn w wr p D gn d U last now gl cl) (hDW : ∀ g, D g → w.heap.size ≤ g) (hp : PmAt w' p D U') (hm : Mod D wr w') (he : Either U' last now) (hd : U'.deeds ≤ d') : EitherIn w w' p D gn d' U' last now gl cl := by
  obtain ⟨B1, b1, o1⟩ := h.l
  obtain ⟨B2, b2, o2⟩ := h.n
  exact ⟨hp, he, ⟨B1, b1, o1.mod hm h.dl⟩, ⟨B2, b2, o2.mod hm h.dn⟩, h.ne, h.dl, h.dn, hd, h.below.trans (hm.below h.below.size hDW)⟩

set_option maxRecDepth 20000 in
set_option maxHeartbeats 2000000 in
theorem law_either0 {w : World} {v kv : Value} {l : List OpV} {keep : List Nat} (hv : HoldsO1 w v l) (hkv : HoldsB w kv keep) :
    Calls Try.prog 9 #[v, kv] w fun e w' => e = .returned (.bool true) ∧ Below w.heap.size w w' := by
  obtain ⟨i0, hi0, hz0, hz1, hz2⟩ := info_parts Try.infoU64
  have HV := Lib.hid hv
  have HKV := Lib.hid hkv
  obtain ⟨ao, cap, rfl, h1, h2, -⟩ := hv
  obtain ⟨ka, kc, rfl, k1, k2, -⟩ := hkv
  obtain ⟨m, hm⟩ : ∃ m, m = l.length := ⟨_, rfl⟩
  obtain ⟨q, hq⟩ : ∃ q, q = keep.length := ⟨_, rfl⟩
  rw [← hm] at h1 HV ⊢
  rw [← hq] at k1 HKV ⊢
  have HMM := Lib.hid hm
  have HQQ := Lib.hid hq
  have HAW := fun w => Lib.hid (awake1 w)
  clear hm hq
  go_enter Try.func9, Try.ntmps9
  go_wp2_with fail
  refine (HAW _).out.mono ?_
  rintro e w1 ⟨rfl, hb1⟩
  have HB1 := Lib.hid hb1
  have hfew := few1 (HV.out.below HB1.out) 60
  clear hb1
  go_wp2_with fail
  refine hfew.mono ?_
  rintro e w2 ⟨rfl, b, rfl, hbb⟩
  have HBB := Lib.hid hbb
  clear hfew hbb
  cases b with
  | false =>
    go_wp2_with fail
    refine (HAW _).out.mono ?_
    rintro e w2 ⟨rfl, hb2⟩
    go_wp2
    go_ret
    exact ⟨rfl, HB1.out.trans (hb2.mono HB1.out.size)⟩
  | true =>
    obtain ⟨hl60, -⟩ := HBB.out rfl
    rw [← HMM.out] at hl60
    clear HBB
    by_cases hq : 100 < q
    · have hqi : (100 : Int) < (q : Int) := by omega
      go_wp2_with fail
      refine (HAW _).out.mono ?_
      rintro e w2 ⟨rfl, hb2⟩
      go_wp2
      go_ret
      exact ⟨rfl, HB1.out.trans (hb2.mono HB1.out.size)⟩
    · have hqi : ¬ (100 : Int) < (q : Int) := by omega
      go_wp2_with fail
      refine (pm_new 50 w1).mono ?_
      rintro e w2 ⟨p, rfl, hp2, hb2⟩
      rw [show min ((50 : Int)).toNat 10000 = 50 from rfl] at hp2
      have HP2 := Lib.hid hp2
      have HB2 : Hid (Below w.heap.size w w2) := HB1.out.trans (hb2.mono HB1.out.size)
      have HDW : Hid (∀ g, grow nob w1 w2 g → w.heap.size ≤ g) := by
        intro g hd
        have := HB1.out.size
        rcases hd with hd | hd
        · exact hd.elim
        · omega
      have HE0 := Lib.hid Either.new
      have hde0 : (Pm.new (List.replicate 50 0)).deeds = 0 := rfl
      have HDE0 := Lib.hid hde0
      generalize Pm.new (List.replicate 50 0) = S at HE0 HDE0 HP2
      generalize grow nob w1 w2 = D at HP2 HDW
      clear hp2 hb2 hde0
      go_wp2_with (at_make; refine wpList_make_full _ rfl _ _ 53 rfl w2.heap.size 41 i0 (.int .u64 0) 1 Try.underlying53 hi0 hz0 hz1 .i64 .i64 50 50 50 rfl rfl rfl rfl (by rw [hz2]; omega) (by unfold maxLen; omega) (Nat.le_refl _) ?_)
      intro w3 hown3 hgr3
      have HO3 := Lib.hid (OwnW.made hown3)
      have hb3 : Below w2.heap.size w2 w3 := (Below.refl _ _).grown hgr3 (Nat.le_refl _) (by intro k hk; cases hk)
      have HP3 := Lib.hid (HP2.out.mod (mod_of_below hb3) (fun _ _ h => h))
      have HLT2 := Lib.hid HP2.out.lt
      have HB3 : Hid (Below w.heap.size w w3) := HB2.out.trans (hb3.mono HB2.out.size)
      clear hown3 hgr3
      go_wp2_with (at_make; refine wpList_make_full _ rfl _ _ 53 rfl w3.heap.size 41 i0 (.int .u64 0) 1 Try.underlying53 hi0 hz0 hz1 .i64 .i64 50 50 50 rfl rfl rfl rfl (by rw [hz2]; omega) (by unfold maxLen; omega) (Nat.le_refl _) ?_)
      intro w4 hown4 hgr4
      have hb4 : Below w3.heap.size w3 w4 := (Below.refl _ _).grown hgr4 (Nat.le_refl _) (by intro k hk; cases hk)
      have HIN0 : Hid (EitherIn w w4 p D w3.heap.size 0 S (List.replicate 50 0) (List.replicate 50 0) w2.heap.size 50) := by
        have hl3 := HO3.out.lt
        have hs3 := HB2.out.size
        refine ⟨HP3.out.mod (mod_of_below hb4) (fun _ _ h => h), HE0.out, ⟨_, hs3, HO3.out.mod (mod_of_below hb4) (fun h => h)⟩, ⟨_, HB3.out.size, OwnW.made hown4⟩, by omega, fun hd => ?_, fun hd => ?_, by rw [HDE0.out]; omega, HB3.out.trans (hb4.mono HB3.out.size)⟩
        · have := HLT2.out _ hd
          omega
        · have := HLT2.out _ hd
          omega
      obtain ⟨gn, hgn⟩ : ∃ gn, gn = w3.heap.size := ⟨_, rfl⟩
      rw [← hgn] at HIN0 ⊢
      clear hown4 hgr4 hb4 hb3 hgn HO3 HP3 HB3 HE0 HP2 HB2 HB1 HDE0
      have hm60 : m ≤ 60 := by omega
      go_wp2_with fail
      go_loopg [6, 8] m (fun gk lv iv wr => ∃ j : Nat, j + gk = m ∧ iv = .int .i64 j ∧ Hid (EitherAt w wr p D gn (10 * j) lv))
      case atStart => exact ⟨0, by omega, rfl, S, _, _, _, _, rfl, HIN0.out⟩
      case round =>
        obtain ⟨j, hj, rfl, HE⟩ := hrel
        obtain ⟨U, last, now, gl, cl, rfl, hin⟩ := HE.out
        have HI := Lib.hid hin
        clear hin HE
        by_cases hlt : j < m
        · have hlt1 : (j : Int) < (m : Int) := by omega
          obtain ⟨ao', cap', e1, -, -, hops⟩ := HV.out.below HI.out.below
          simp only [Value.slice.injEq] at e1
          obtain ⟨rfl, -, rfl⟩ := e1
          obtain ⟨g, o, kw, rfl, hop⟩ := hops j (by rw [← HMM.out]; exact hlt)
          have d1 := hop.i
          have d3 := hop.word
          have hzw := hop.ok.word
          have HOP := Lib.hid hop
          obtain ⟨z, hz⟩ : ∃ z, z = l.getD j default := ⟨_, rfl⟩
          rw [← hz] at d1 d3 hzw HOP
          obtain ⟨zi, hzi⟩ : ∃ zi, zi = z.i := ⟨_, rfl⟩
          obtain ⟨zw, hzw2⟩ : ∃ zw, zw = z.word := ⟨_, rfl⟩
          rw [← hzi] at d1
          rw [← hzw2] at d3 hzw
          have HOPS : Hid (∀ wc, Below w.heap.size w wc → ∃ kx, OpAt wc g (o + j * 5) z kx) := by
            intro wc hbc
            obtain ⟨ao2, cap2, e2, -, -, hops2⟩ := HV.out.below hbc
            simp only [Value.slice.injEq] at e2
            obtain ⟨rfl, -, rfl⟩ := e2
            obtain ⟨g2, o2, kx, e3, hop2⟩ := hops2 j (by rw [← HMM.out]; exact hlt)
            simp only [Option.some.injEq, Addr.mk.injEq, and_true] at e3
            obtain ⟨rfl, rfl⟩ := e3
            rw [← hz] at hop2
            exact ⟨kx, hop2⟩
          have HZI := Lib.hid hzi
          have HZW := Lib.hid hzw2
          clear hops hop hzi hzw2 hz HOP
          go_wp2_with fail
          go_still_tail 11, (by kernel_rfl)
          have HPV : Hid (PmAt wr.drew p D U) := HI.out.pm.mod (D0 := nob) ((Mod.refl nob wr).drew) (fun _ _ h => h)
          go_upto_if 51 with (go_at_call 45; refine (pm_store HPV.out (by have := HI.out.deeds; omega) zi zw hzw.1 hzw.2).mono ?_; rintro e w6 ⟨rfl, h6, m6⟩; have H6 := Lib.hid h6; have M6 := Lib.hid m6; clear h6 m6)
          go_cut [] (fun wc => Hid (EitherAt w wc p D gn (10 * j + 1) (.slice (some ⟨gl, 0, none⟩) 50 cl)))
          case first =>
            have HB6 : Hid (Below w.heap.size w w6) := HI.out.below.drew.trans (M6.out.below HI.out.below.drew.size HDW.out)
            by_cases hm : U.may zi = 0
            · have hmb : (U.may zi == 0) = true := by simpa using hm
              have HE6 := Lib.hid (HI.out.e.store zi zw hzw.1 hzw.2 hm)
              have hmo := Pm.may_ok hm
              have hn50 := HI.out.e.still.n
              obtain ⟨zn, hzn⟩ := Int.eq_ofNat_of_zero_le hmo.1
              have hzn50 : zn < 50 := by omega
              obtain ⟨kx, hop⟩ := HOPS.out _ HB6.out
              have d1' := hop.i
              have d3' := hop.word
              rw [← HZI.out] at d1'
              rw [← HZW.out] at d3'
              obtain ⟨B2, b2, o2⟩ := HI.out.n
              have o2' := o2.mod ((Mod.refl D wr).drew.step M6.out (fun _ h => h)) HI.out.dn
              obtain ⟨B1, b1, o1⟩ := HI.out.l
              have o1' := o1.mod ((Mod.refl D wr).drew.step M6.out (fun _ h => h)) HI.out.dl
              obtain ⟨c7, f7⟩ := o2'.cell hzn50
              have hlt7 := o2'.lt
              have HO2 := Lib.hid o2'
              have HO1 := Lib.hid o1'
              have hz0 : (0 : Int) ≤ (zn : Int) := Int.natCast_nonneg _
              have hz5 : (zn : Int) < 50 := by omega
              subst hzn
              clear hop o2 o1 o2' o1' hm hmo d1 d3
              go_wp2_with fail
              go_still_tail 12, (by kernel_rfl)
              go_wp2_with fail
              go_meet
              case rel =>
                have hm7 : Mod (fun b => b = gn) w6 (w6.drew.setCell ⟨gn, zn, none⟩ (.int .u64 zw)) := (Mod.refl (fun b => b = gn) w6).drew.setCell (a := ⟨gn, zn, none⟩) (.inl rfl) _
                refine ⟨U.store (zn : Int) zw, last, now.set zn zw, gl, cl, rfl, H6.out.mod hm7 (fun b hb e => HI.out.dn (e ▸ hb)), HE6.out, ⟨B1, b1, HO1.out.mod hm7 HI.out.ne⟩, ⟨B2, b2, (HO2.out.mod (D := nob) (Mod.refl nob w6).drew (fun h => h)).set hzn50 zw⟩, HI.out.ne, HI.out.dl, HI.out.dn, ?_, HB6.out.trans (hm7.below HB6.out.size (fun b hb => by subst hb; omega))⟩
                have := Pm.store_deeds U (zn : Int) zw
                have := HI.out.deeds
                omega
            · have hmb : (U.may zi == 0) = false := by simpa using hm
              have hst : U.store zi zw = U := by unfold Pm.store; rw [if_neg hm]
              rw [hst] at H6
              clear hm hst
              go_wp2_with fail
              go_meet
              case rel =>
                exact ⟨U, last, now, gl, cl, rfl, HI.out.turn HDW.out H6.out ((Mod.refl D wr).drew.step M6.out (fun _ h => h)) HI.out.e (by have := HI.out.deeds; omega)⟩
          case rest =>
            clear HI HPV H6 M6 d1 d3 HZI HZW hzw
            obtain ⟨U2, last2, now2, gl2, cl2, elv, hin2⟩ := hcut.out
            simp only [Value.slice.injEq, Option.some.injEq, Addr.mk.injEq, and_true, true_and] at elv
            obtain ⟨rfl, rfl⟩ := elv
            have HI := Lib.hid hin2
            obtain ⟨kx, hop⟩ := HOPS.out _ HI.out.below
            have dk := hop.kind
            obtain ⟨kd, hkd⟩ : ∃ kd, kd = z.kind := ⟨_, rfl⟩
            rw [← hkd] at dk
            clear hop hkd hin2 hcut
            by_cases hk1 : kd % 4 = 1
            · have hki : ((kd : Int) % 4) = 1 := by omega
              go_wp2_with fail
              have HK1 := Lib.hid hk1
              clear hki hk1 dk
              go_loopg [9] 7 (fun gk kv wr2 => ∃ (i : Nat) (V : Pm), i + gk = 7 ∧ kv = .int .i64 (8 * (i : Int)) ∧ Hid (PmAt wr2 p D V) ∧ Hid (Cov U2 V i) ∧ Hid (Mod D wc wr2) ∧ Hid (V.deeds ≤ U2.deeds + i))
              case atStart => exact ⟨0, U2, by omega, rfl, HI.out.pm, Cov.start HI.out.e.still HI.out.e.ok, Mod.refl _ _, Nat.le_refl _⟩
              case round =>
                obtain ⟨i, V, hi, rfl, HPV, HCV, HMV, HDV⟩ := hrel
                by_cases hlt : i < 7
                · have hi8 : 8 * (i : Int) < 50 := by omega
                  have hi0 : 0 ≤ (i : Int) := Int.natCast_nonneg _
                  go_wp2_with (go_at_call 46; refine (pm_flush HPV.out (by have := HDV.out; have := HI.out.deeds; omega) (8 * (i : Int))).mono ?_; rintro e w7 ⟨rfl, h7, m7⟩)
                  go_roundg (gk - 1)
                  case measure => omega
                  case rel =>
                    have hst := HCV.out.step (by omega)
                    rw [show ((8 * i : Nat) : Int) = 8 * (i : Int) by omega] at hst
                    exact ⟨i + 1, V.flush (8 * (i : Int)), by omega, by go_num, h7, hst, HMV.out.step m7 (fun _ h => h), (by have := HDV.out; have := Pm.flush_deeds V (8 * (i : Int)); unfold Hid; omega)⟩
                · obtain rfl : i = 7 := by omega
                  go_wp2_with fail
                  refine (pm_fence HPV.out (by have := HDV.out; have := HI.out.deeds; omega)).mono ?_
                  rintro e w7 ⟨rfl, h7, m7⟩
                  have H7 := Lib.hid h7
                  have M7 := Lib.hid (HMV.out.step m7 (fun _ h => h))
                  obtain ⟨B2, b2, o2⟩ := HI.out.n
                  have HO2 := Lib.hid (o2.mod M7.out HI.out.dn)
                  have HB7 : Hid (Below w.heap.size w w7) := HI.out.below.trans (M7.out.below HI.out.below.size HDW.out)
                  have hcn := holdsC_of_U HO2.out.holds
                  rw [HO2.out.len] at hcn
                  have HCN := Lib.hid hcn
                  have HXL : Hid ((u64s now2).length = 50 * 1) := by unfold Hid; rw [u64s_len, HO2.out.len]
                  clear h7 m7 o2 hcn
                  go_wp2_with (at_builtin; refine wpList_append_any rfl (.tmp 80) (.tmp 81) _ rfl w7.heap.size 41 i0 _ 1 8 Try.underlying53 hi0 hz0 hz1 hz2 rfl (by omega) (.slice (some ⟨w7.heap.size, 0, none⟩) 0 0) 0 [] rfl (own_block (cs := #[]) (n := 0) ?_ (Nat.le_refl _) (Nat.zero_le _) rfl) _ 50 (u64s now2) rfl (HoldsC.mod (D := nob) HCN.out ?_ (fun _ _ h => h)) HXL.out (u64s_one _) (by unfold maxLen; omega) (by omega) ?_ ?_)
                  · first | exact heap_alloc_new _ _ | exact heap_new1 _ _ _ | exact heap_new0 _ _ _
                  · repeat (first | exact Mod.refl _ _ | refine Mod.drew ?_ | refine Mod.alloc ?_ _)
                  · first | (simp; done) | (simp; omega)
                  intro v' w8 hown8 hgrow hat
                  try simp only [Nat.zero_add, List.nil_append] at hown8
                  have HB78 : Hid (Below w7.heap.size w7 w8) := ((Below.refl _ _).alloc (Nat.le_refl _) _).grown hgrow (by simp) (by intro q hq; simp [Value.ownBlock] at hq; omega)
                  obtain ⟨g8, c8, rfl, hg8, hg8l, hc8, hc8m⟩ := own_some hown8 (by omega)
                  have HO8 : Hid (OwnW w8 w7.heap.size g8 50 c8 now2) := ⟨hown8, HO2.out.len⟩
                  have hdlt := H7.out.lt
                  have HLT7 := Lib.hid hdlt
                  have hgnlt := HO2.out.lt.1
                  clear hown8 hgrow hat hdlt
                  go_wp2_with fail
                  go_roundg (m - j - 1)
                  case measure => omega
                  case rel =>
                    refine ⟨j + 1, by omega, by go_num, V.fence, now2, now2, g8, c8, rfl, H7.out.mod (mod_of_below HB78.out) (fun _ _ h => h), HCV.out.fence HI.out.e, ⟨_, HB7.out.size, HO8.out⟩, ⟨B2, b2, HO2.out.mod (mod_of_below HB78.out) (fun h => h)⟩, by omega, fun hd => ?_, HI.out.dn, ?_, HB7.out.trans (HB78.out.mono HB7.out.size)⟩
                    · have := HLT7.out _ hd
                      omega
                    · have := HI.out.deeds
                      have := HDV.out
                      have := Pm.fence_deeds V
                      omega
            · have hki : ¬ ((kd : Int) % 4) = 1 := by omega
              have hkb : (((kd : Int) % 4) == 1) = false := by simpa using hki
              go_wp2_with fail
              go_roundg (gk - 1)
              case measure => omega
              case rel => exact ⟨j + 1, by omega, by go_num, U2, last2, now2, _, _, rfl, HI.out.turn HDW.out HI.out.pm (Mod.refl _ _) HI.out.e (by have := HI.out.deeds; omega)⟩
        · have hge : ¬ (j : Int) < (m : Int) := by omega
          go_wp2_with fail
          refine (pm_crash HI.out.pm (HKV.out.below HI.out.below) (fun hne g hg hd => by have h1 := HDW.out g hd; have h2 := HKV.out.lt hne g hg; omega)).mono ?_
          rintro e w6 ⟨rfl, h6, m6⟩
          have hI6 := HI.out.below.trans (m6.below HI.out.below.size HDW.out)
          have HB6 := Lib.hid hI6
          have H6 := Lib.hid h6
          obtain ⟨B1, b1, o1⟩ := HI.out.l
          obtain ⟨B2, b2, o2⟩ := HI.out.n
          have HO1 := Lib.hid (o1.mod m6 HI.out.dl)
          have HO2 := Lib.hid (o2.mod m6 HI.out.dn)
          have hst := HI.out.e.still.crash keep
          have hei := fun k hk => HI.out.e.crash keep k hk
          have HST := Lib.hid hst
          have HEI := Lib.hid hei
          have HTW := Lib.hid (fun keep2 k => crash_twice U HI.out.e.ok keep keep2 k)
          clear h6 m6 hI6 o1 o2 hst hei
          go_wp2_with (at_make; refine wpList_make_full _ rfl _ _ 53 rfl w6.heap.size 41 i0 (.int .u64 0) 1 Try.underlying53 hi0 hz0 hz1 .i64 .i64 50 50 50 rfl rfl rfl rfl (by rw [hz2]; omega) (by unfold maxLen; omega) (Nat.le_refl _) ?_)
          intro w7 hown7 hgr7
          have hb7 : Below w6.heap.size w6 w7 := (Below.refl _ _).grown hgr7 (Nat.le_refl _) (by intro k hk; cases hk)
          have HO7 := Lib.hid (OwnW.made hown7)
          have HLT6 := Lib.hid H6.out.lt
          have HP7 := Lib.hid (H6.out.mod (mod_of_below hb7) (fun _ _ h => h))
          have HL7 := Lib.hid (HO1.out.mod (mod_of_below hb7) (fun h => h))
          have HN7 := Lib.hid (HO2.out.mod (mod_of_below hb7) (fun h => h))
          have HB7 : Hid (Below w.heap.size w w7) := HB6.out.trans (hb7.mono HB6.out.size)
          clear hown7 hgr7 hb7
          generalize hC : U.crash keep = C at *
          obtain ⟨gs, hgs⟩ : ∃ gs, gs = w6.heap.size := ⟨_, rfl⟩
          have hl6 := HO1.out.lt
          have hn6 := HO2.out.lt
          have HNE : Hid (gl ≠ gs ∧ gn ≠ gs ∧ ¬ D gs) := by
            refine ⟨by omega, by omega, fun hd => ?_⟩
            have := HLT6.out _ hd
            omega
          rw [← hgs] at HO7 ⊢
          have HGS := Lib.hid (show w.heap.size ≤ gs from by rw [hgs]; exact HB6.out.size)
          clear hC hl6 hn6 hgs H6 HO1 HO2
          go_wp2_with fail
          go_loopg [11] 50 (fun gk kv wr => ∃ (i : Nat) (seen : List Int), i + gk = 50 ∧ kv = .int .i64 i ∧ Hid (OwnW wr gs gs 50 50 seen) ∧ Hid (∀ k, k < i → seen.getD k 0 = C.now k) ∧ Hid (Mod (fun b => b = gs) w7 wr))
          case atStart => exact ⟨0, _, by omega, rfl, HO7.out, (fun k hk => by omega), Mod.refl _ _⟩
          case round =>
            obtain ⟨i, seen, hi, rfl, HSE, HSK, HMS⟩ := hrel
            by_cases hlt : i < 50
            · have hld := pm_load (HP7.out.mod HMS.out (fun b hb e => HNE.out.2.2 (e ▸ hb))) (i : Int)
              rw [HST.out.may_in i hlt, HST.out.load i hlt] at hld
              have HLD := Lib.hid hld
              have e1 := ((HL7.out.mod HMS.out HNE.out.1).cell hlt).1
              have e2 := ((HN7.out.mod HMS.out HNE.out.2.1).cell hlt).1
              obtain ⟨e3, f3⟩ := HSE.out.cell hlt
              have hei := HEI.out i hlt
              have hi5 : (i : Int) < 50 := by omega
              have hi0 : (0 : Int) ≤ (i : Int) := Int.natCast_nonneg _
              have HSL := HSE.out.len
              have HNX : Hid (∀ y, y = C.now i → ∀ k, k < i + 1 → (seen.set i y).getD k 0 = C.now k) := by
                intro y hy k hk
                rw [getD_set _ _ _ _ (by omega)]
                split
                · rename_i e; rw [e]; exact hy
                · exact HSK.out k (by omega)
              generalize hY : C.now i = y at *
              have HY := Lib.hid hY
              generalize last.getD i 0 = a1 at *
              generalize now.getD i 0 = a2 at *
              clear hld hY
              by_cases ha : y = a1
              · subst ha
                go_wp2_with fail
                refine HLD.out.mono ?_
                rintro e w9 ⟨rfl, rfl⟩
                go_wp2_with fail
                go_roundg (gk - 1)
                case measure => omega
                case rel => exact ⟨i + 1, _, by omega, by go_num, HSE.out.set hlt y, HNX.out y rfl, HMS.out.setCell (.inl rfl) _⟩
              · have hne : (y != a1) = true := by simpa using ha
                obtain rfl : y = a2 := by rcases hei with h | h; exact absurd h ha; exact h
                clear ha hei
                go_wp2_with fail
                refine HLD.out.mono ?_
                rintro e w9 ⟨rfl, rfl⟩
                go_wp2_with fail
                go_roundg (gk - 1)
                case measure => omega
                case rel => exact ⟨i + 1, _, by omega, by go_num, HSE.out.set hlt y, HNX.out y rfl, HMS.out.setCell (.inl rfl) _⟩
            · obtain rfl : i = 50 := by omega
              have HPr := Lib.hid (HP7.out.mod HMS.out (fun b hb e => HNE.out.2.2 (e ▸ hb)))
              have HBr : Hid (Below w.heap.size w wr) := HB7.out.trans (HMS.out.below HB7.out.size (fun b hb => by subst hb; exact HGS.out))
              have hbx : HoldsB (wr.alloc (.cells #[.int .u8 1] 5)) (.slice (some ⟨wr.heap.size, 0, none⟩) 1 1) [1] := by
                refine ⟨_, 1, rfl, Nat.le_refl _, by unfold maxLen; omega, fun j hj => ?_⟩
                obtain rfl : j = 0 := by simp at hj; omega
                exact ⟨⟨wr.heap.size, 0, rfl, by rw [boxed_new]; rfl⟩, by decide⟩
              have HBX := Lib.hid hbx
              clear hbx
              go_wp2_with fail
              refine (pm_crash (HPr.out.mod (D0 := nob) ((Mod.refl nob wr).alloc _) (fun _ _ h => h)) HBX.out (fun _ g hg hd => by cases hg; exact Nat.lt_irrefl _ (HPr.out.lt _ hd))).mono ?_
              rintro e w9 ⟨rfl, h9, m9⟩
              have HB9 : Hid (Below w.heap.size w w9) := (HBr.out.alloc HBr.out.size _).trans (m9.below (HBr.out.alloc HBr.out.size _).size HDW.out)
              have HS9 := Lib.hid ((HSE.out.mod (D := nob) ((Mod.refl nob wr).alloc _) (fun h => h)).mod m9 HNE.out.2.2)
              have hdi := pm_dirty h9
              rw [Pm.crash_dirty] at hdi
              have HDI := Lib.hid hdi
              have HL9 : Hid (∀ k : Nat, k < 50 → Calls Try.prog 49 #[.pointer (some ⟨p, 0, none⟩), .int .i64 (k : Int)] w9 fun e w' => e = .returned (.tuple #[.int .u64 (seen.getD k 0), .int .i64 0]) ∧ w9 = w') := by
                intro k hk
                have hld := pm_load h9 (k : Int)
                have hs9 := HST.out.crash [1]
                rw [hs9.may_in k hk, hs9.load k hk, HTW.out [1] k, ← HSK.out k hk] at hld
                exact hld
              clear h9 m9 hdi
              go_wp2_with fail
              go_loopg [14] 50 (fun gk kv wr => ∃ i : Nat, i + gk = 50 ∧ kv = .int .i64 i ∧ w9 = wr)
              case atStart => exact ⟨0, by omega, rfl, rfl⟩
              case round =>
                obtain ⟨i, hi, rfl, rfl⟩ := hrel
                by_cases hlt : i < 50
                · have hld := Lib.hid (HL9.out i hlt)
                  obtain ⟨e3, -⟩ := HS9.out.cell hlt
                  have hi5 : (i : Int) < 50 := by omega
                  have hi0 : (0 : Int) ≤ (i : Int) := Int.natCast_nonneg _
                  generalize seen.getD i 0 = y at e3 hld
                  go_wp2_with fail
                  refine hld.out.mono ?_
                  rintro e wx ⟨rfl, rfl⟩
                  go_wp2_with fail
                  go_roundg (gk - 1)
                  case measure => omega
                  case rel => exact ⟨i + 1, by omega, by go_num, rfl⟩
                · obtain rfl : i = 50 := by omega
                  go_wp2_with fail
                  refine HDI.out.mono ?_
                  rintro e wx ⟨rfl, rfl⟩
                  go_wp2
                  go_ret
                  exact ⟨rfl, HB9.out⟩
end Go.Proofs.Ytfpnmphmngdkdaa
