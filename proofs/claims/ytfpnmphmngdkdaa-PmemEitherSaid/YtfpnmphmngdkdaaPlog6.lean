/-
  What stands, and a replay: contracts. No condition but the bounds that are typed.
-/
import Derived.Test.YtfpnmphmngdkdaaPlog5
namespace Go.Proofs.Ytfpnmphmngdkdaa
open Go.ChangeShapes Go.WideShapes Go.ChangeAt Go.RowKit Go.Maps
set_option linter.unusedSimpArgs false
set_option linter.unusedVariables false

def standTo (S : Pm) (n : Nat) : List (Int × Int) := (List.range n).map fun (i : Nat) => (S.now (9 + 2 * i), S.now (10 + 2 * i))
def standN (S : Pm) : Nat := (S.now 8 / 4294967296).toNat
noncomputable def standOk (S : Pm) : Bool := goodP (standTo S (standN S)) && decide (commitW (standTo S (standN S)) = S.now 8)
noncomputable def Pm.standing (S : Pm) : List (Int × Int) × Bool × Int :=
  if S.n ≠ 3128 then ([], false, 1) else if S.gone then ([], false, 9) else if standN S < 1 ∨ 400 < standN S then ([], false, 0)
  else if standOk S then (standTo S (standN S), true, 0) else ([], false, 0)

theorem standTo_succ (S : Pm) (k : Nat) : standTo S (k + 1) = standTo S k ++ [(S.now (9 + 2 * k), S.now (10 + 2 * k))] := by
  unfold standTo
  rw [List.range_succ, List.map_append]
  rfl

theorem standTo_len (S : Pm) (k : Nat) : (standTo S k).length = k := by simp [standTo]

theorem standTo_mem {S : Pm} {k : Nat} {x : Int × Int} (h : x ∈ standTo S k) : ∃ i, i < k ∧ x = (S.now (9 + 2 * i), S.now (10 + 2 * i)) := by
  unfold standTo at h
  obtain ⟨i, hi, rfl⟩ := List.mem_map.1 h
  exact ⟨i, List.mem_range.1 hi, rfl⟩

theorem good_not {S : Pm} {n k : Nat} (hk : k < n) (h : 3128 ≤ S.now (9 + 2 * k)) : goodP (standTo S n) = false := by
  unfold goodP
  have : (standTo S n).all (fun x => placeB x.1) = false := by
    rw [List.all_eq_false]
    refine ⟨(S.now (9 + 2 * k), S.now (10 + 2 * k)), List.mem_map.2 ⟨k, List.mem_range.2 hk, rfl⟩, ?_⟩
    unfold placeB
    simp
    omega
  rw [this]
  simp

theorem good_pos2 {l : List (Int × Int)} (h : goodP l = true) (hw : ∀ x ∈ l, 0 ≤ x.2 ∧ x.2 < 18446744073709551616) : Pos l := by
  unfold goodP at h
  simp only [Bool.and_eq_true, decide_eq_true_eq, List.all_eq_true] at h
  intro x hx
  have h1 := h.2 x hx
  have h2 := hw x hx
  unfold placeB at h1
  simp only [decide_eq_true_eq] at h1
  omega

def StandPost (w : World) (l : List (Int × Int)) (ok : Bool) (er : Int) (e : Ending) (w' : World) : Prop :=
  ∃ v, e = .returned (.tuple #[v, .bool ok, .int .i64 er]) ∧ w'.ownsRow w.heap.size 50 2 v l.length (cellsI l) ∧ Below w.heap.size w w'

theorem stand_nil (w w' : World) (ok : Bool) (er : Int) (hb : Below w.heap.size w w') (e : Ending) (he : e = .returned (.tuple #[.slice none 0 0, .bool ok, .int .i64 er])) : StandPost w [] ok er e w' :=
  ⟨_, he, World.ownsRow_nil _ _ _ _, hb⟩

set_option maxRecDepth 20000 in
set_option maxHeartbeats 1000000 in
theorem plog_standing {w : World} {p : Nat} {D : Nat → Prop} {S : Pm} (h : PmAt w p D S) :
    Calls Try.prog 17 #[.pointer (some ⟨p, 0, none⟩)] w (StandPost w S.standing.1 S.standing.2.1 S.standing.2.2) := by
  obtain ⟨i0, hi0, hz0, hz1, hz2⟩ := info_parts Try.infoPair
  have HLEN := Lib.hid (pm_len h)
  have HP := Lib.hid h
  have hfin : S.standing = if S.n ≠ 3128 then ([], false, 1) else if S.gone then ([], false, 9) else if standN S < 1 ∨ 400 < standN S then ([], false, 0)
    else if standOk S then (standTo S (standN S), true, 0) else ([], false, 0) := rfl
  have hnow := h.ok.now
  have HNOW := Lib.hid hnow
  by_cases hn : S.n = 3128
  · rw [hn] at HLEN
    rw [if_neg (by simp [hn])] at hfin
    cases hg : S.gone with
    | true =>
      rw [hg, if_pos rfl] at hfin
      have hm : S.may 8 = 9 := by unfold Pm.may; rw [hg]; rfl
      have hld := pm_load h 8
      rw [hm] at hld
      have h80 : S.load 8 = 0 := by unfold Pm.load; rw [hm]; rfl
      rw [h80] at hld
      have HLD := Lib.hid hld
      rw [hfin]
      clear h hfin hnow hn hg hm hld h80
      go_enter Try.func17, Try.ntmps17
      go_wp2_with fail
      refine HLEN.out.mono ?_
      rintro e w1 ⟨rfl, rfl⟩
      go_wp2_with fail
      refine HLD.out.mono ?_
      rintro e w1 ⟨rfl, rfl⟩
      go_wp2
      go_ret3
      exact stand_nil _ _ _ _ (Below.refl _ _) _ rfl
    | false =>
      rw [hg, if_neg (by simp)] at hfin
      have hmay : ∀ i : Int, 0 ≤ i → i < 3128 → S.may i = 0 := by
        intro i h0 h1
        unfold Pm.may
        rw [hg, hn]
        simp
        omega
      have hld : ∀ (w1 : World), PmAt w1 p D S → ∀ (i : Int) (j : Nat), i = j → j < 3128 → Hid (Calls Try.prog 49 #[.pointer (some ⟨p, 0, none⟩), .int .i64 i] w1 fun e w' => e = .returned (.tuple #[.int .u64 (S.now j), .int .i64 0]) ∧ w1 = w') := by
        rintro w1 h1 i j rfl hj
        have := pm_load h1 (j : Int)
        rw [hmay j (by omega) (by omega)] at this
        have e1 : S.load (j : Int) = S.now j := by unfold Pm.load; rw [hmay j (by omega) (by omega)]; rfl
        rw [e1] at this
        exact this
      have HLD := Lib.hid hld
      have h8 := hnow 8
      have hsn : standN S = (S.now 8 / 4294967296).toNat := rfl
      have HL8 := hld w h 8 8 rfl (by omega)
      have hcmp : standOk S = (goodP (standTo S (standN S)) && decide (commitW (standTo S (standN S)) = S.now 8)) := rfl
      obtain ⟨ww, hww⟩ := Int.eq_ofNat_of_zero_le h8.1
      have HWW := Lib.hid hww
      rw [hww] at HL8 hsn h8 hcmp
      obtain ⟨m, hm⟩ : ∃ m, m = ww / 4294967296 := ⟨_, rfl⟩
      have hsn2 : standN S = m := by rw [hsn, hm]; omega
      rw [hsn2] at hfin hcmp
      have hdiv : ((ww : Int) / 4294967296) = (m : Int) := by omega
      have HCMP := Lib.hid hcmp
      clear hnow hld hmay hsn hsn2 hww hm hcmp h hn hg
      rcases (show m < 1 ∨ 400 < m ∨ (1 ≤ m ∧ m ≤ 400) by omega) with hm | hm | ⟨hm1, hm2⟩
      · rw [if_pos (.inl hm)] at hfin
        rw [hfin]
        have hmi : (m : Int) < 1 := by omega
        clear hfin
        go_enter Try.func17, Try.ntmps17
        go_wp2_with fail
        refine HLEN.out.mono ?_
        rintro e w1 ⟨rfl, rfl⟩
        go_wp2_with fail
        refine HL8.out.mono ?_
        rintro e w1 ⟨rfl, rfl⟩
        go_wp2
        go_ret3
        exact stand_nil _ _ _ _ (Below.refl _ _) _ rfl
      · rw [if_pos (.inr hm)] at hfin
        rw [hfin]
        have hmi : (400 : Int) < (m : Int) := by omega
        have hmj : (1 : Int) ≤ (m : Int) := by omega
        clear hfin
        go_enter Try.func17, Try.ntmps17
        go_wp2_with fail
        refine HLEN.out.mono ?_
        rintro e w1 ⟨rfl, rfl⟩
        go_wp2_with fail
        refine HL8.out.mono ?_
        rintro e w1 ⟨rfl, rfl⟩
        go_wp2
        go_ret3
        exact stand_nil _ _ _ _ (Below.refl _ _) _ rfl
      · rw [if_neg (by omega)] at hfin
        have HF := Lib.hid hfin
        have hmi : (m : Int) ≤ 400 := by omega
        have hmj : (1 : Int) ≤ (m : Int) := by omega
        clear hfin
        go_enter Try.func17, Try.ntmps17
        go_wp2_with fail
        refine HLEN.out.mono ?_
        rintro e w1 ⟨rfl, rfl⟩
        go_wp2_with fail
        refine HL8.out.mono ?_
        rintro e w1 ⟨rfl, rfl⟩
        go_wp2
        go_loopg [8, 36] m (fun gk ov i wr => ∃ k : Nat, k + gk = m ∧ i = .int .i64 k ∧ Hid (wr.ownsRow w.heap.size 50 2 ov k (cellsI (standTo S k))) ∧ Hid (Below w.heap.size w wr))
        case atStart => exact ⟨0, by omega, rfl, World.ownsRow_nil _ _ _ _, Below.refl _ _⟩
        case round =>
          obtain ⟨k, hk, rfl, HO, HB⟩ := hrel
          have HPW : Hid (PmAt wr p D S) := HP.out.mod (mod_of_below HB.out) (fun _ _ h => h)
          have hbs := HB.out.size
          by_cases hlt : k < m
          · have hki : (k : Int) < (m : Int) := by omega
            have hk0 : (0 : Int) ≤ (k : Int) := Int.natCast_nonneg _
            have HL1 := HLD.out wr HPW.out (9 + 2 * (k : Int)) (9 + 2 * k) (by omega) (by omega)
            have HL2 := HLD.out wr HPW.out (10 + 2 * (k : Int)) (10 + 2 * k) (by omega) (by omega)
            have hw1 := HNOW.out (9 + 2 * k)
            have hw2 := HNOW.out (10 + 2 * k)
            have HSN := Lib.hid (standTo_succ S k)
            have HBAD : Hid (3128 ≤ S.now (9 + 2 * k) → S.standing = ([], false, 0)) := by
              intro hb
              rw [HF.out, HCMP.out, good_not hlt hb]
              rfl
            generalize S.now (9 + 2 * k) = x at HL1 hw1 HSN HBAD
            generalize S.now (10 + 2 * k) = y at HL2 hw2 HSN
            obtain ⟨hx0, hx1⟩ := hw1
            obtain ⟨hy0, hy1⟩ := hw2
            have e2 : (9 : Int) + 2 * (k : Int) + 1 = 10 + 2 * (k : Int) := by omega
            have HE2 := Lib.hid e2
            clear e2
            rcases (show x < 3128 ∨ 3128 ≤ x by omega) with hx | hx
            · have HCL : Hid ((cellsI (standTo S k)).length = k * 2) := by unfold Hid; rw [cellsI_len, standTo_len]
              have hconv : IntKind.i64.wrap x = x := by rw [IntKind.wrap_i64]; omega
              have hmay := (trivial : True)
              go_wp2_with fail
              refine HL1.out.mono ?_
              rintro e w1 ⟨rfl, rfl⟩
              go_wp2_with fail
              first | rw [HE2.out] | skip
              refine HL2.out.mono ?_
              rintro e w1 ⟨rfl, rfl⟩
              go_wp2_with (at_builtin; refine wpList_append_any rfl (.tmp 66) (.tmp 71) _ rfl w.heap.size 50 i0 _ 2 16 Try.underlying23 hi0 hz0 hz1 hz2 rfl (by omega) _ k (cellsI (standTo S k)) rfl (Mod.own (D := nob) (w := wr) ?_ HO.out (fun _ _ h => h)) _ 1 [.int .i64 x, .int .u64 y] rfl (HoldsC.block (cs := #[.int .i64 x, .int .u64 y]) (t := 50) (fr := (0, 0)) ?_ (by unfold maxLen; omega)) rfl (by simp [Value.oneCell']) (by unfold maxLen; omega) (by omega) ?_ ?_)
              · repeat (first | exact Mod.refl _ _ | refine Mod.drew ?_ | refine Mod.alloc ?_ _)
              · first | exact heap_alloc_new _ _ | exact heap_new1 _ _ _ | exact heap_new0 _ _ _
              · first | (simp; done) | (simp; omega)
              · intro v' w1 hown1 hgrow hat
                have HO1 : Hid (w1.ownsRow w.heap.size 50 2 v' (k + 1) (cellsI (standTo S (k + 1)))) := by
                  rw [HSN.out, cellsI_append]
                  exact hown1
                have HB1 : Hid (Below w.heap.size w w1) := ((HB.out.alloc hbs _)).grown hgrow (by simp; omega) (own_ge HO.out)
                clear hown1 hgrow hat
                go_wp2
                go_roundg (gk - 1)
                case measure => omega
                case rel => exact ⟨k + 1, by omega, by go_num, HO1, HB1⟩
            · have HR := Lib.hid (HBAD.out hx)
              go_wp2_with fail
              refine HL1.out.mono ?_
              rintro e w1 ⟨rfl, rfl⟩
              go_wp2_with fail
              first | rw [HE2.out] | skip
              refine HL2.out.mono ?_
              rintro e w1 ⟨rfl, rfl⟩
              go_wp2
              go_ret3
              rw [HR.out]
              exact stand_nil _ _ _ _ HB.out _ rfl
          · obtain rfl : k = m := by omega
            have HLL : Hid (HoldsL wr u8 (standTo S k)) := HoldsL.of_own (standTo_len S k).symm HO.out
            have HG := Lib.hid (plog_good HLL.out (by rw [standTo_len]; omega))
            have hW64 : ∀ x ∈ standTo S k, 0 ≤ x.2 ∧ x.2 < 18446744073709551616 := by
              intro x hx
              obtain ⟨i, hi, rfl⟩ := standTo_mem hx
              exact HNOW.out _
            obtain ⟨ao8, cap8, rfl, -, -, -⟩ := own_shape HO.out
            cases hg : goodP (standTo S k) with
            | false =>
              rw [hg] at HG
              have HR : Hid (S.standing = ([], false, 0)) := by
                unfold Hid
                rw [HF.out, HCMP.out, hg]
                rfl
              clear hg hW64
              go_wp2_with fail
              refine HG.out.mono ?_
              rintro e w1 ⟨rfl, hb1⟩
              have HB1 : Hid (Below w.heap.size w w1) := HB.out.trans (hb1.mono hbs)
              clear hb1
              go_wp2
              go_ret3
              rw [HR.out]
              exact stand_nil _ _ _ _ HB1.out _ rfl
            | true =>
              rw [hg] at HG
              have HPOS := Lib.hid (good_pos2 hg hW64)
              have HGT := Lib.hid hg
              clear hg hW64
              go_wp2_with fail
              refine HG.out.mono ?_
              rintro e w1 ⟨rfl, hb1⟩
              have HB1 : Hid (Below w.heap.size w w1) := HB.out.trans (hb1.mono hbs)
              have HCW := Lib.hid (plog_commitWord (HLL.out.below hb1) HPOS.out (by rw [standTo_len]; omega))
              have HO1 := Lib.hid (own_below HO.out hb1 (Nat.le_refl _))
              have hcr := commitW_range (l := standTo S k) (by rw [standTo_len]; omega)
              clear hb1
              by_cases hc : commitW (standTo S k) = (ww : Int)
              · have HR : Hid (S.standing = (standTo S k, true, 0)) := by
                  unfold Hid
                  rw [HF.out, HCMP.out, HGT.out, hc]
                  simp
                rw [hc] at HCW
                clear hc hcr
                go_wp2_with fail
                refine HCW.out.mono ?_
                rintro e w2 ⟨rfl, hb2⟩
                have HB2 : Hid (Below w.heap.size w w2) := HB1.out.trans (hb2.mono HB1.out.size)
                have HO2 := Lib.hid (own_below HO1.out hb2 (Nat.le_refl _))
                clear hb2
                go_wp2
                go_ret3
                rw [HR.out]
                have hown := HO2.out
                refine ⟨_, rfl, ?_, HB2.out⟩
                show World.ownsRow _ _ _ _ _ (standTo S k).length _
                rw [standTo_len]
                exact hown
              · have HR : Hid (S.standing = ([], false, 0)) := by
                  unfold Hid
                  rw [HF.out, HCMP.out, HGT.out]
                  simp [hc]
                have hne : (commitW (standTo S k) != (ww : Int)) = true := by simpa using hc
                generalize commitW (standTo S k) = cw at HCW hne hcr
                clear hc
                go_wp2_with fail
                refine HCW.out.mono ?_
                rintro e w2 ⟨rfl, hb2⟩
                have HB2 : Hid (Below w.heap.size w w2) := HB1.out.trans (hb2.mono HB1.out.size)
                clear hb2
                go_wp2
                go_ret3
                rw [HR.out]
                exact stand_nil _ _ _ _ HB2.out _ rfl
  · rw [if_pos hn] at hfin
    rw [hfin]
    have hne : ((S.n : Int) != 3128) = true := by simp; omega
    clear h hfin hnow hn
    go_enter Try.func17, Try.ntmps17
    go_wp2_with fail
    refine HLEN.out.mono ?_
    rintro e w1 ⟨rfl, rfl⟩
    go_wp2
    go_ret3
    exact stand_nil _ _ _ _ (Below.refl _ _) _ rfl

noncomputable def Pm.replay (S : Pm) : Pm × Int :=
  if S.standing.2.2 ≠ 0 then (S, S.standing.2.2) else if S.standing.2.1 then S.doneP S.standing.1 else if S.may 8 ≠ 0 ∨ S.load 8 = 0 then (S, S.may 8) else S.mark 0

theorem standing_len (S : Pm) : S.standing.1.length ≤ 400 := by
  unfold Pm.standing
  split
  · simp
  · split
    · simp
    · split
      · simp
      · split
        · simp only [standTo_len]; omega
        · simp

theorem standing_word64 {S : Pm} (h : S.Ok) : S.standing.2.1 = true → Word64 S.standing.1 := by
  unfold Pm.standing
  split
  · intro h; cases h
  · split
    · intro h; cases h
    · split
      · intro h; cases h
      · split
        · rename_i hok
          intro _
          unfold standOk at hok
          simp only [Bool.and_eq_true] at hok
          refine pos_word64 (good_pos2 hok.1 ?_)
          intro x hx
          obtain ⟨i, hi, rfl⟩ := standTo_mem hx
          exact h.now _
        · intro h; cases h

set_option maxRecDepth 20000 in
set_option maxHeartbeats 1000000 in
theorem plog_replay {w : World} {p : Nat} {D : Nat → Prop} {S : Pm} (h : PmAt w p D S) (hb : S.deeds + 10000 < 1099511627776) :
    Calls Try.prog 19 #[.pointer (some ⟨p, 0, none⟩)] w fun e w' => e = .returned (.int .i64 S.replay.2) ∧ PmAt w' p D S.replay.1 ∧ Mod D w w' := by
  have HST := Lib.hid (plog_standing h)
  have HP := Lib.hid h
  have hfin : S.replay = if S.standing.2.2 ≠ 0 then (S, S.standing.2.2) else if S.standing.2.1 then S.doneP S.standing.1 else if S.may 8 ≠ 0 ∨ S.load 8 = 0 then (S, S.may 8) else S.mark 0 := rfl
  have hlen := standing_len S
  have hw64 := standing_word64 h.ok
  have HLT := Lib.hid h.lt
  generalize S.standing = st at HST hfin hlen hw64
  obtain ⟨l, ok, er⟩ := st
  simp only at HST hfin hlen hw64
  unfold StandPost at HST
  have HLEN := Lib.hid hlen
  clear h hlen
  by_cases he : er = 0
  · subst he
    rw [if_neg (by simp)] at hfin
    cases ok with
    | true =>
      rw [if_pos rfl] at hfin
      have HF := Lib.hid hfin
      have HW := Lib.hid (hw64 rfl)
      clear hfin hw64
      go_enter Try.func19, Try.ntmps19
      go_wp2_with fail
      refine HST.out.mono ?_
      rintro e w1 ⟨v1, rfl, ho1, hb1⟩
      have H1 : Hid (PmAt w1 p D S) := HP.out.mod (mod_of_below hb1) (fun _ _ h => h)
      have M1 : Hid (Mod D w w1) := (mod_of_below hb1).mono (fun _ _ h => h.elim)
      have HL1 : Hid (HoldsL w1 v1 l) := HoldsL.of_own rfl ho1
      have HDN := Lib.hid (plog_done H1.out HL1.out (not_in_of_ge HLT.out (w := w) (Nat.le_refl _) ho1) HW.out (by have := HLEN.out; omega))
      obtain ⟨ao, cap, rfl, -, -, -⟩ := own_shape ho1
      clear ho1 hb1
      go_wp2_with fail
      refine HDN.out.mono ?_
      rintro e w2 ⟨rfl, h2, m2⟩
      have H2 := Lib.hid h2
      have M2 : Hid (Mod D w w2) := M1.out.step m2 (fun _ h => h)
      clear h2 m2
      go_wp2
      go_ret
      rw [HF.out]
      exact ⟨rfl, H2.out, M2.out⟩
    | false =>
      rw [if_neg (by simp)] at hfin
      clear hw64
      have HLD0 := fun (w1 : World) (h : PmAt w1 p D S) => Lib.hid (pm_load h 8)
      by_cases hm : S.may 8 = 0
      · have hld : S.load 8 = S.load 8 := rfl
        rw [hm] at HLD0
        by_cases h0 : S.load 8 = 0
        · rw [if_pos (.inr h0), hm] at hfin
          rw [h0] at HLD0
          have HF := Lib.hid hfin
          clear hfin hm h0 hld
          go_enter Try.func19, Try.ntmps19
          go_wp2_with fail
          refine HST.out.mono ?_
          rintro e w1 ⟨v1, rfl, ho1, hb1⟩
          have H1 : Hid (PmAt w1 p D S) := HP.out.mod (mod_of_below hb1) (fun _ _ h => h)
          have M1 : Hid (Mod D w w1) := (mod_of_below hb1).mono (fun _ _ h => h.elim)
          obtain ⟨ao, cap, rfl, -, -, -⟩ := own_shape ho1
          clear ho1 hb1
          go_wp2_with fail
          refine (HLD0 _ H1.out).out.mono ?_
          rintro e w2 ⟨rfl, rfl⟩
          go_wp2
          go_ret
          rw [HF.out]
          exact ⟨rfl, H1.out, M1.out⟩
        · rw [if_neg (by simp [hm, h0])] at hfin
          have HF := Lib.hid hfin
          have hne : (S.load 8 == 0) = false := by simpa using h0
          generalize S.load 8 = x at HLD0 hne
          clear hfin hm h0 hld
          go_enter Try.func19, Try.ntmps19
          go_wp2_with fail
          refine HST.out.mono ?_
          rintro e w1 ⟨v1, rfl, ho1, hb1⟩
          have H1 : Hid (PmAt w1 p D S) := HP.out.mod (mod_of_below hb1) (fun _ _ h => h)
          have M1 : Hid (Mod D w w1) := (mod_of_below hb1).mono (fun _ _ h => h.elim)
          have HMK := Lib.hid (plog_mark H1.out 0 (by omega) (by omega) (by omega))
          obtain ⟨ao, cap, rfl, -, -, -⟩ := own_shape ho1
          clear ho1 hb1
          go_wp2_with fail
          refine (HLD0 _ H1.out).out.mono ?_
          rintro e w2 ⟨rfl, rfl⟩
          go_wp2_with fail
          refine HMK.out.mono ?_
          rintro e w2 ⟨rfl, h2, m2⟩
          have H2 := Lib.hid h2
          have M2 : Hid (Mod D w w2) := M1.out.step m2 (fun _ h => h)
          clear h2 m2
          go_wp2
          go_ret
          rw [HF.out]
          exact ⟨rfl, H2.out, M2.out⟩
      · rw [if_pos (.inl hm)] at hfin
        have HF := Lib.hid hfin
        have hne : (S.may 8 != 0) = true := by simpa using hm
        generalize S.may 8 = m at HLD0 hne HF
        clear hfin hm
        go_enter Try.func19, Try.ntmps19
        go_wp2_with fail
        refine HST.out.mono ?_
        rintro e w1 ⟨v1, rfl, ho1, hb1⟩
        have H1 : Hid (PmAt w1 p D S) := HP.out.mod (mod_of_below hb1) (fun _ _ h => h)
        have M1 : Hid (Mod D w w1) := (mod_of_below hb1).mono (fun _ _ h => h.elim)
        obtain ⟨ao, cap, rfl, -, -, -⟩ := own_shape ho1
        clear ho1 hb1
        go_wp2_with fail
        refine (HLD0 _ H1.out).out.mono ?_
        rintro e w2 ⟨rfl, rfl⟩
        go_wp2
        go_ret
        rw [HF.out]
        exact ⟨rfl, H1.out, M1.out⟩
  · rw [if_pos he] at hfin
    have HF := Lib.hid hfin
    have hne : (er != 0) = true := by simpa using he
    clear hfin he hw64
    go_enter Try.func19, Try.ntmps19
    go_wp2_with fail
    refine HST.out.mono ?_
    rintro e w1 ⟨v1, rfl, ho1, hb1⟩
    have H1 : Hid (PmAt w1 p D S) := HP.out.mod (mod_of_below hb1) (fun _ _ h => h)
    have M1 : Hid (Mod D w w1) := (mod_of_below hb1).mono (fun _ _ h => h.elim)
    obtain ⟨ao, cap, rfl, -, -, -⟩ := own_shape ho1
    clear ho1 hb1
    go_wp2
    go_ret
    rw [HF.out]
    exact ⟨rfl, H1.out, M1.out⟩
end Go.Proofs.Ytfpnmphmngdkdaa
