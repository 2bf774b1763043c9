/-
  The reference of the journal: what stands in words: a contract. No condition but the bounds that are typed.
-/
import Derived.Test.YtcbcemeagiociaaPlogRef2
namespace Go.Proofs.Ytcbcemeagiociaa
open Go.ChangeShapes Go.WideShapes Go.ChangeAt Go.RowKit Go.Maps
set_option linter.unusedSimpArgs false
set_option linter.unusedVariables false

def RefStand (w : World) (l : List (Int × Int)) (ok : Bool) (e : Ending) (w' : World) : Prop :=
  ∃ v, e = .returned (.tuple #[v, .bool ok]) ∧ w'.ownsRow w.heap.size 54 2 v l.length (cellsI l) ∧ Below w.heap.size w w'

theorem refStand_nil (w w' : World) (ok : Bool) (hb : Below w.heap.size w w') (e : Ending) (he : e = .returned (.tuple #[.slice none 0 0, .bool ok])) : RefStand w [] ok e w' :=
  ⟨_, he, World.ownsRow_nil _ _ _ _, hb⟩

set_option maxRecDepth 20000 in
set_option maxHeartbeats 1000000 in
theorem ref3_stands {w : World} {v : Value} {xs : List Int} (hv : HoldsU w v xs) (hx : xs.length = 3128) (hwf : ∀ z ∈ xs, 0 ≤ z ∧ z < 18446744073709551616) :
    Calls Try.prog 71 #[v] w (RefStand w (Pm.new xs).standing.1 (Pm.new xs).standing.2.1) := by
  obtain ⟨i0, hi0, hz0, hz1, hz2⟩ := info_parts Try.infoPair
  have hok : (Pm.new xs).Ok := Pm.Ok.new hwf
  have hnow : ∀ i, (Pm.new xs).now i = xs.getD i 0 := fun _ => rfl
  have hn : (Pm.new xs).n = 3128 := by show min xs.length 10000 = 3128; omega
  have hgone : (Pm.new xs).gone = false := rfl
  generalize Pm.new xs = S at hok hnow hn hgone ⊢
  have hfin : S.standing = if standN S < 1 ∨ 400 < standN S then ([], false, 0) else if standOk S then (standTo S (standN S), true, 0) else ([], false, 0) := by
    unfold Pm.standing
    rw [if_neg (by simp [hn]), if_neg (by simp [hgone])]
  have HNOW := Lib.hid hok.now
  have HV := hv
  obtain ⟨ao, c, rfl, -, hlc, hcm, -⟩ := hv
  rw [hx] at HV hlc ⊢
  have hcells := holdsU_cells HV
  obtain ⟨g, o, rfl, hc8⟩ := hcells 8 (by omega)
  have hcell : Hid (∀ wr, Below w.heap.size w wr → ∀ j, j < 3128 → wr.cell? ⟨g, o + j, none⟩ = some (.int .u64 (S.now j))) := by
    intro wr hb j hj
    obtain ⟨g', o', e, hc⟩ := hcells j hj
    simp only [Option.some.injEq, Addr.mk.injEq, and_true] at e
    obtain ⟨rfl, rfl⟩ := e
    rw [hnow]
    rw [hb.cell (World.block_lt_of_cell? w _ hc)]
    exact hc
  have hgl : g < w.heap.size := World.block_lt_of_cell? (a := ⟨g, o + 8, none⟩) w hc8
  have h8 := hok.now 8
  have hsn : standN S = (S.now 8 / 4294967296).toNat := rfl
  have hcmp : standOk S = (goodP (standTo S (standN S)) && decide (commitW (standTo S (standN S)) = S.now 8)) := rfl
  have hcell8 := hcell w (Below.refl _ _) 8 (by omega)
  obtain ⟨ww, hww⟩ := Int.eq_ofNat_of_zero_le h8.1
  have HWW := Lib.hid hww
  rw [hww] at hsn h8 hcmp hcell8
  obtain ⟨m, hm⟩ : ∃ m, m = ww / 4294967296 := ⟨_, rfl⟩
  have hsn2 : standN S = m := by rw [hsn, hm]; omega
  rw [hsn2] at hfin hcmp
  have hdiv : ((ww : Int) / 4294967296) = (m : Int) := by omega
  have HCMP := Lib.hid hcmp
  unfold maxLen at hcm
  clear hok hnow hn hgone HV hcells hc8 hsn hsn2 hww hm hcmp hwf hx
  rcases (show m < 1 ∨ 400 < m ∨ (1 ≤ m ∧ m ≤ 400) by omega) with hm | hm | ⟨hm1, hm2⟩
  · rw [if_pos (.inl hm)] at hfin
    rw [hfin]
    have hmi : (m : Int) < 1 := by omega
    clear hfin
    go_enter Try.func71, Try.ntmps71
    go_wp2
    go_ret2
    exact refStand_nil _ _ _ (Below.refl _ _) _ rfl
  · rw [if_pos (.inr hm)] at hfin
    rw [hfin]
    have hmi : (400 : Int) < (m : Int) := by omega
    have hmj : (1 : Int) ≤ (m : Int) := by omega
    clear hfin
    go_enter Try.func71, Try.ntmps71
    go_wp2
    go_ret2
    exact refStand_nil _ _ _ (Below.refl _ _) _ rfl
  · rw [if_neg (by omega)] at hfin
    have HF := Lib.hid hfin
    have hmi : (m : Int) ≤ 400 := by omega
    have hmj : (1 : Int) ≤ (m : Int) := by omega
    clear hfin
    go_enter Try.func71, Try.ntmps71
    go_wp2
    go_loopg [5, 6] m (fun gk ov i wr => ∃ k : Nat, k + gk = m ∧ i = .int .i64 k ∧ Hid (wr.ownsRow w.heap.size 54 2 ov k (cellsI (standTo S k))) ∧ Hid (Below w.heap.size w wr))
    case atStart => exact ⟨0, by omega, rfl, World.ownsRow_nil _ _ _ _, Below.refl _ _⟩
    case round =>
      obtain ⟨k, hk, rfl, HO, HB⟩ := hrel
      have hbs := HB.out.size
      have d8 := hcell.out wr HB.out 8 (by omega)
      rw [HWW.out] at d8
      by_cases hlt : k < m
      · have hki : (k : Int) < (m : Int) := by omega
        have hk0 : (0 : Int) ≤ (k : Int) := Int.natCast_nonneg _
        have d1 := hcell.out wr HB.out (9 + 2 * k) (by omega)
        have d2 := hcell.out wr HB.out (10 + 2 * k) (by omega)
        have hw1 := HNOW.out (9 + 2 * k)
        have hw2 := HNOW.out (10 + 2 * k)
        have HSN := Lib.hid (standTo_succ S k)
        have HBAD : Hid (3128 ≤ S.now (9 + 2 * k) → S.standing = ([], false, 0)) := by
          intro hb
          rw [HF.out, HCMP.out, good_not hlt hb]
          rfl
        generalize S.now (9 + 2 * k) = x at d1 hw1 HSN HBAD
        generalize S.now (10 + 2 * k) = y at d2 hw2 HSN
        obtain ⟨hx0, hx1⟩ := hw1
        obtain ⟨hy0, hy1⟩ := hw2
        have t1 : (9 + 2 * (k : Int)).toNat = 9 + 2 * k := by omega
        have t2 : (10 + 2 * (k : Int)).toNat = 10 + 2 * k := by omega
        rcases (show x < 3128 ∨ 3128 ≤ x by omega) with hx | hx
        · have HCL : Hid ((cellsI (standTo S k)).length = k * 2) := by unfold Hid; rw [cellsI_len, standTo_len]
          have hconv : IntKind.i64.wrap x = x := by rw [IntKind.wrap_i64]; omega
          have i1 : IntKind.i64.wrap (2 * (k : Int)) = 2 * (k : Int) := by rw [IntKind.wrap_i64]; omega
          have i2 : IntKind.i64.wrap (9 + 2 * (k : Int)) = 9 + 2 * (k : Int) := by rw [IntKind.wrap_i64]; omega
          have i3 : IntKind.i64.wrap (10 + 2 * (k : Int)) = 10 + 2 * (k : Int) := by rw [IntKind.wrap_i64]; omega
          have i4 : (0 : Int) ≤ 9 + 2 * (k : Int) := by omega
          have i5 : 9 + 2 * (k : Int) < 3128 := by omega
          have i6 : (0 : Int) ≤ 10 + 2 * (k : Int) := by omega
          have i7 : 10 + 2 * (k : Int) < 3128 := by omega
          go_wp2_with fail
          go_region_held3 (fun w' => w'.cell? ⟨g, o + (9 + 2 * k), none⟩ = some (.int .u64 x) ∧ w'.cell? ⟨g, o + (10 + 2 * k), none⟩ = some (.int .u64 y))
            (first
              | go_keep
              | exact ⟨HX.cell d1 hng, HX.cell d2 hng⟩)
            (first
              | (refine step_append_any (by rfl) (.tmp 30) (.tmp 45) _ (by rfl) w.heap.size 54 i0 _ 2 16 Try.underlying47 hi0 hz0 hz1 hz2 rfl (by omega) _ k (cellsI (standTo S k)) (by rfl) (Mod.own (D := nob) (w := wr) ?_ HO.out (fun _ _ h => h)) (.slice (some ⟨wr.heap.size, 0, none⟩) 1 1) 1 [.int .i64 x, .int .u64 y] (by rfl) (HoldsC.block (cs := #[.int .i64 x, .int .u64 y]) (t := 54) (fr := (0, 0)) ?_ (by unfold maxLen; omega)) (by rfl) (by simp [Value.oneCell']) (by unfold maxLen; omega) (by omega) ?_ ?_
                 · repeat (first | exact Mod.refl _ _ | refine Mod.drew ?_ | refine Mod.alloc ?_ _)
                 · first | exact heap_alloc_new _ _ | exact heap_new1 _ _ _ | exact heap_new0 _ _ _
                 · first | omega | (simp; done) | (simp; omega)
                 intro v' w1 hown1 hgrow hat
                 have HX : Mod (fun b => u5.ownBlock = some b) wr w1 := (((Mod.refl _ wr).alloc _).drew).step (mod_of_grown hgrow) (fun _ h => h)
                 have hng : ¬ u5.ownBlock = some g := fun e => by have := own_ge HO.out g e; omega))
          all_goals
            have HO1 : Hid (w1.ownsRow w.heap.size 54 2 v' (k + 1) (cellsI (standTo S (k + 1)))) := by
              rw [HSN.out, cellsI_append]
              exact hown1
            have HB1 : Hid (Below w.heap.size w w1) := HB.out.trans (HX.below hbs (fun b hb => own_ge HO.out b hb))
            clear hown1 hgrow hat HX hng i1 i2 i3 t1 t2
            go_wp2_with fail
            go_roundg (gk - 1)
            case measure => omega
            case rel => exact ⟨k + 1, by omega, by go_num, HO1, HB1⟩
        · have HR := Lib.hid (HBAD.out hx)
          go_wp2
          go_ret2
          rw [HR.out]
          exact refStand_nil _ _ _ HB.out _ rfl
      · obtain rfl : k = m := by omega
        have HLL : Hid (HoldsL wr u5 (standTo S k)) := HoldsL.of_own (standTo_len S k).symm HO.out
        have hW64 : ∀ x ∈ standTo S k, 0 ≤ x.2 ∧ x.2 < 18446744073709551616 := by
          intro x hx
          obtain ⟨i, hi, rfl⟩ := standTo_mem hx
          exact HNOW.out _
        obtain ⟨ao8, cap8, rfl, -, -, -⟩ := own_shape HO.out
        have HLN : Hid ((standTo S k).length < 1099511627776) := by unfold Hid; rw [standTo_len]; omega
        have HLN2 : Hid ((standTo S k).length < 4294967296) := by unfold Hid; rw [standTo_len]; omega
        cases hg : goodP (standTo S k) with
        | false =>
          have HGQ : Hid (∀ n, Calls Try.prog 93 #[.slice ao8 k cap8] (wr.drewN n) fun e w' => e = .returned (.bool false) ∧ w' = wr.drewN n) := by
            intro n
            have := ref3_good (HLL.out.mod (D := nob) ((Mod.refl nob wr).drewN n) (fun _ _ h => h)) HLN.out
            rw [hg] at this
            exact this.mono fun e w' ⟨h1, h2⟩ => ⟨h1, h2.symm⟩
          have HR : Hid (S.standing = ([], false, 0)) := by
            unfold Hid
            rw [HF.out, HCMP.out, hg]
            rfl
          clear hg hW64
          go_wp2_with fail
          go_quiet ((go_at_call 93; exact Calls.quiet_of_same (HGQ.out _)))
          have HB1 : Hid (Below w.heap.size w (wr.drewN nq)) := below_drewN HB.out nq
          go_wp2
          go_ret2
          rw [HR.out]
          exact refStand_nil _ _ _ HB1.out _ rfl
        | true =>
          have HPOS := Lib.hid (good_pos2 hg hW64)
          have HGT := Lib.hid hg
          have hcr := commitW_range (l := standTo S k) (by rw [standTo_len]; omega)
          clear hg hW64
          have HRT : Hid (commitW (standTo S k) = (ww : Int) → S.standing = (standTo S k, true, 0)) := by
            intro hc
            rw [HF.out, HCMP.out, HGT.out, hc]
            simp
          have HRN : Hid (¬ commitW (standTo S k) = (ww : Int) → S.standing = ([], false, 0)) := by
            intro hc
            rw [HF.out, HCMP.out, HGT.out]
            simp [hc]
          have HMK : Hid (∀ W : World, Mod nob wr W → Calls Try.prog 69 #[.slice ao8 k cap8] W fun e w' => e = .returned (.int .u64 (commitW (standTo S k))) ∧ Below W.heap.size W w') :=
            fun W hm => ref3_mark (HLL.out.mod hm (fun _ _ h => h)) HPOS.out HLN2.out
          have HGD : Hid (∀ W : World, Mod nob wr W → Calls Try.prog 93 #[.slice ao8 k cap8] W fun e w' => e = .returned (.bool true) ∧ W = w') := by
            intro W hm
            have := ref3_good (HLL.out.mod hm (fun _ _ h => h)) HLN.out
            rw [HGT.out] at this
            exact this
          generalize commitW (standTo S k) = cw at HMK HRT HRN hcr
          rcases (show cw = (ww : Int) ∨ ¬ cw = (ww : Int) by omega) with hc | hc
          · have HR := Lib.hid (HRT.out hc)
            subst hc
            have hne : ((ww : Int) != (ww : Int)) = false := by simp
            clear HRT HRN
            go_wp2_with fail
            go_region_held3 (fun w' => w'.cell? ⟨g, o + 8, none⟩ = some (.int .u64 (ww : Int)))
              (first
                | go_keep
                | exact HX.cell d8 (fun h => h))
              (first
                | (go_at_call 93
                   refine (HGD.out _ ?_).mono ?_
                   · repeat (first | exact Mod.refl _ _ | refine Mod.drew ?_)
                   rintro e w' ⟨rfl, rfl⟩)
                | (go_at_call 69
                   refine (HMK.out _ ?_).mono ?_
                   · repeat (first | exact Mod.refl _ _ | refine Mod.drew ?_)
                   rintro e w2 ⟨rfl, hb2⟩
                   have HX : Mod nob wr w2 := Mod.step (by repeat (first | exact Mod.refl _ _ | refine Mod.drew ?_)) (mod_of_below hb2) (fun _ h => h)))
            all_goals
              have HXX := Lib.hid HX
              clear HX hb2
              go_wp2
              go_ret2
              rw [HR.out]
              refine ⟨_, rfl, ?_, HB.out.trans (Below.mono (nob_mod_below ?_) hbs)⟩
              · show World.ownsRow _ _ _ _ _ (standTo S k).length _
                rw [standTo_len]
                exact Mod.own (D := nob) (w := wr) (by repeat (first | exact HXX.out | refine Mod.drew ?_)) HO.out (fun _ _ h => h)
              · repeat (first | exact HXX.out | refine Mod.drew ?_)
          · have HR := Lib.hid (HRN.out hc)
            have hne : (cw != (ww : Int)) = true := by simpa using hc
            clear HRT HRN hc
            go_wp2_with fail
            go_region_held3 (fun w' => w'.cell? ⟨g, o + 8, none⟩ = some (.int .u64 (ww : Int)))
              (first
                | go_keep
                | exact HX.cell d8 (fun h => h))
              (first
                | (go_at_call 93
                   refine (HGD.out _ ?_).mono ?_
                   · repeat (first | exact Mod.refl _ _ | refine Mod.drew ?_)
                   rintro e w' ⟨rfl, rfl⟩)
                | (go_at_call 69
                   refine (HMK.out _ ?_).mono ?_
                   · repeat (first | exact Mod.refl _ _ | refine Mod.drew ?_)
                   rintro e w2 ⟨rfl, hb2⟩
                   have HX : Mod nob wr w2 := Mod.step (by repeat (first | exact Mod.refl _ _ | refine Mod.drew ?_)) (mod_of_below hb2) (fun _ h => h)))
            all_goals
              have HXX := Lib.hid HX
              clear HX hb2
              go_wp2
              go_ret2
              rw [HR.out]
              exact refStand_nil _ _ _ (HB.out.trans (Below.mono (nob_mod_below (by repeat (first | exact HXX.out | refine Mod.drew ?_))) hbs)) _ rfl
end Go.Proofs.Ytcbcemeagiociaa
