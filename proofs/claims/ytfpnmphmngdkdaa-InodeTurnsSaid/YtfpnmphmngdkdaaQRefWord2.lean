/-
  imagoref07.Word: a contract. No condition but the inode's being right and the bounds that are typed.
-/
import Derived.Test.YtfpnmphmngdkdaaQRefBkt
import Derived.Test.YtfpnmphmngdkdaaQRefNeed
import Derived.Test.YtfpnmphmngdkdaaQPut3

namespace Go.Proofs.Ytfpnmphmngdkdaa
open Go.ChangeShapes Go.WideShapes Go.ChangeAt Go.RowKit
set_option linter.unusedSimpArgs false
set_option linter.unusedVariables false

/-- The r-th word of a bucket's k-th block. -/
noncomputable def wd3 (l : List En) (own : List Nat) (fr d k r : Nat) : Int :=
  if r = 0 then (if k + 1 < d then ((own.getD (fr + k + 1) 0 : Nat) : Int) else 0)
  else if r = 7 then 0
  else if 3 * k + (r - 1) / 2 < l.length then (if r % 2 = 1 then ((nword (l.getD (3 * k + (r - 1) / 2) default).name : Nat) : Int) else (l.getD (3 * k + (r - 1) / 2) default).ino)
  else 0
noncomputable def hitK (l : List En) (own : List Nat) (fr d : Nat) (i : Int) : Nat → Nat → Option Int
  | _, 0 => none
  | k, f + 1 => if 0 ≤ i - 1080 - 8 * ((own.getD (fr + k) 0 : Nat) : Int) ∧ i - 1080 - 8 * ((own.getD (fr + k) 0 : Nat) : Int) ≤ 7 then some (wd3 l own fr d k (i - 1080 - 8 * ((own.getD (fr + k) 0 : Nat) : Int)).toNat) else hitK l own fr d i (k + 1) f
noncomputable def dB (l : List En) (b : Nat) : Nat := ((bktL l b).length + 2) / 3
noncomputable def wordB (l : List En) (own : List Nat) (at_ i : Int) : Nat → Nat → Int × Bool
  | _, 0 => (0, decide (i - at_ = 6 ∨ i - at_ = 7))
  | b, f + 1 => if i - at_ = 2 + (b : Int) then (if 0 < dB l b then ((own.getD (sumB l b) 0 : Nat) : Int) else 0, true) else
    match hitK (bktL l b) own (sumB l b) (dB l b) i 0 (dB l b) with
    | some v => (v, true)
    | none => wordB l own at_ i (b + 1) f
noncomputable def word2At (n : Ino) (at_ : Int) (own : List Nat) (i : Int) : Int × Bool :=
  if i = at_ then (tagW n, true) else if i = at_ + 1 then (n.size, true)
  else if n.kind = 1 then
    (if 2 ≤ i - at_ ∧ i - at_ < 8 then (fileV (RunsM.runs n.bl) own (i - at_ - 2).toNat, true)
     else if own ≠ [] ∧ 0 ≤ i - 1080 - 8 * ((own.getD 0 0 : Nat) : Int) ∧ i - 1080 - 8 * ((own.getD 0 0 : Nat) : Int) < 8 then (fileV (RunsM.runs n.bl) own (6 + (i - 1080 - 8 * ((own.getD 0 0 : Nat) : Int)).toNat), true)
     else (0, false))
  else wordB n.ents own at_ i 0 4

set_option maxRecDepth 20000 in
set_option maxHeartbeats 8000000 in
theorem ref_word2 {w : World} {n : Ino} {ev bv : Value} {own : List Nat} (hn : n.Ok) (he : HoldsE w ev n.ents) (hv : HoldsN w bv own) (hr : RightP n) (hon : own.length = need2 n) (hob : ∀ b ∈ own, b < 256) (at_ : Int) (ha : 820 ≤ at_ ∧ at_ ≤ 1072) (i : Int) (hi : 0 ≤ i ∧ i < 4000) :
    Calls Try.prog 41 #[.agg (inoA n ev), .int .i64 at_, bv, .int .i64 i] w fun e w' => e = .returned (.tuple #[.int .u64 (word2At n at_ own i).1, .bool (word2At n at_ own i).2]) ∧ Below w.heap.size w w' := by
  have HNO := Lib.hid hn
  have HR := Lib.hid hr
  have HON := Lib.hid hon
  have HOB := Lib.hid hob
  have hb0 := InoB.new w hn.len ev
  have HB0 := Lib.hid hb0
  have HBEL : Hid (Below w.heap.size w (w.alloc (.cells (inoA n ev) 37))) := (Below.refl _ _).alloc (Nat.le_refl _) _
  have HE := Lib.hid (he.below HBEL.out)
  have HV := Lib.hid (hv.below HBEL.out)
  obtain ⟨ao, c, rfl, e1, e2, -, -⟩ := he
  obtain ⟨ta, tc, rfl, t1, t2, -, -⟩ := hv
  obtain ⟨L, hL⟩ : ∃ L, L = n.ents.length := ⟨_, rfl⟩
  obtain ⟨M, hM⟩ : ∃ M, M = own.length := ⟨_, rfl⟩
  obtain ⟨kd, hkd⟩ : ∃ kd, kd = n.kind := ⟨_, rfl⟩
  have hM40 : M ≤ 40 := by rw [hM, hon]; exact need2_le hr
  rw [← hL] at HB0 HE e1 HBEL HV hb0 ⊢
  rw [← hM] at HV t1 ⊢
  unfold maxLen at e2 t2
  have HLL := Lib.hid hL
  have HML := Lib.hid hM
  have HKD := Lib.hid hkd
  have HM40 := Lib.hid hM40
  have HRA := Lib.hid (hb0.at.range hn.len)
  have HRB := Lib.hid (hb0.at.blocks hn.len)
  have HSA : Hid ((Try.prog.info? 37).map (·.size) = some (inoL n (.slice ao L c)).length) := by
    unfold Hid; rw [inoL_len hn.len]; exact Try.info18
  have HSB : Hid ((Try.prog.info? 34).map (·.size) = some (n.bl.map (Value.int .i64)).length) := by
    unfold Hid; rw [List.length_map, hn.len]; exact Try.info13
  obtain ⟨a0, a1⟩ := ha
  obtain ⟨i0, i1⟩ := hi
  clear hn hr hon hob hb0 hL hM hkd
  have c1 := HB0.out.at.c1
  simp only [Nat.zero_add] at c1
  rw [← HKD.out] at c1
  have c3 := HB0.out.at.c3
  simp only [Nat.zero_add] at c3
  go_enter Try.func41, Try.ntmps41
  go_upto_region 2 with (fail)
  generalize w.alloc (.cells (inoA n (.slice ao L c)) 37) = w0 at *
  by_cases hA : i = at_
  · subst hA
    have hv0 : word2At n i own i = (tagW n, true) := by unfold word2At; rw [if_pos rfl]
    have HW0 := Lib.hid hv0
    have HTAG : Hid (Calls Try.prog 91 #[.agg (inoL n (.slice ao L c)).toArray] w0 fun e w' => e = .returned (.int .u64 (tagW n)) ∧ Below w0.heap.size w0 w') := ref_tag HNO.out.len (by obtain ⟨s1, s2, s3, s4⟩ := HR.out.small; exact ⟨s1, s2, s3⟩)
    clear hv0
    go_wp2_with (first
      | (with_reducible refine wpList_load_mid (op := ⟨some 25, _, _, _, _, _⟩) rfl 37 _ rfl w.heap.size 0 rfl (inoL n (.slice ao L c)) _ HRA.out Try.underlying37 rfl HSA.out ?_)
      | (go_at_call 91; refine HTAG.out.mono ?_; rintro e wt ⟨rfl, hbt⟩))
    go_ret2
    refine ⟨?_, HBEL.out.trans (hbt.mono HBEL.out.size)⟩
    rw [HW0.out]
    rfl
  · by_cases hB : i = at_ + 1
    · have hv0 : word2At n at_ own i = (n.size, true) := by unfold word2At; rw [if_neg hA, if_pos hB]
      have HW0 := Lib.hid hv0
      obtain ⟨s1, s2, s3, s4, s5⟩ := HR.out.small
      obtain ⟨sz, hsz⟩ : ∃ sz, sz = n.size := ⟨_, rfl⟩
      rw [← hsz] at c3 s4 s5 HW0
      have hd : i - at_ = 1 := by omega
      clear hv0 hsz hA hB
      go_wp2_with fail
      go_ret2
      refine ⟨?_, HBEL.out⟩
      rw [HW0.out]
      rfl
    · have hd0 : ¬ i - at_ = 0 := by omega
      have hd1 : ¬ i - at_ = 1 := by omega
      by_cases hk : kd = 1
      · have hv0 : word2At n at_ own i = if 2 ≤ i - at_ ∧ i - at_ < 8 then (fileV (RunsM.runs n.bl) own (i - at_ - 2).toNat, true)
     else if own ≠ [] ∧ 0 ≤ i - 1080 - 8 * ((own.getD 0 0 : Nat) : Int) ∧ i - 1080 - 8 * ((own.getD 0 0 : Nat) : Int) < 8 then (fileV (RunsM.runs n.bl) own (6 + (i - 1080 - 8 * ((own.getD 0 0 : Nat) : Int)).toNat), true)
     else (0, false) := by unfold word2At; rw [if_neg hA, if_neg hB, if_pos (by rw [← HKD.out]; exact hk)]
        have HW0 := Lib.hid hv0
        have HRU := Lib.hid (fun wx => (by have := ref_runs n.bl HNO.out.len wx; rw [← RunsM.runs_eq n.bl HNO.out.len] at this; exact this))
        subst hk
        clear hv0 hA hB
        go_upto_region 8 with (first
          | (with_reducible refine wpList_load_mid (op := ⟨some 36, _, _, _, _, _⟩) rfl 34 _ rfl w.heap.size (0 + 4) rfl (n.bl.map (Value.int .i64)) _ HRB.out Try.underlying34 rfl HSB.out ?_)
          | (go_at_call 101; refine (HRU.out _).mono ?_; rintro e w1 ⟨v, rfl, hown, hb1⟩))
        have HU : Hid (HoldsU w1 v (RunsM.runs n.bl)) := holdsU_of_own hown
        have HV1 : Hid (HoldsN w1 (.slice ta M tc) own) := HV.out.mod (mod_of_below hb1) (fun _ _ _ h => h)
        have HB1 : Hid (Below w.heap.size w w1) := HBEL.out.trans (hb1.mono HBEL.out.size)
        obtain ⟨va, vc, rfl, s1, s2, -⟩ := own_shape hown
        clear hown hb1 c1 c3 HRU HV HBEL hd0 hd1
        have HF := Lib.hid (fun (q : Nat) (hq : q < 14) => ref_file HU.out HV1.out HOB.out q hq)
        by_cases h28 : 2 ≤ i - at_ ∧ i - at_ < 8
        · have HW1 := HW0.out
          rw [if_pos h28] at HW1
          obtain ⟨q, hq⟩ : ∃ q : Nat, q = (i - at_ - 2).toNat := ⟨_, rfl⟩
          rw [← hq] at HW1
          have HW2 := Lib.hid HW1
          have hd : i - at_ = (q : Int) + 2 := by omega
          have hd2 : (q : Int) + 2 - 2 = (q : Int) := by omega
          have hqb : (q : Int) < 6 := by omega
          have HFQ := Lib.hid (HF.out q (by omega))
          clear HW1 hq h28 HF
          go_wp2_with (go_at_call 103; refine HFQ.out.mono ?_; rintro e w2 ⟨rfl, rfl⟩)
          go_ret2
          refine ⟨?_, HB1.out⟩
          rw [HW2.out]
          rfl
        · have HW1 := HW0.out
          rw [if_neg h28] at HW1
          have HW2 := Lib.hid HW1
          clear HW1
          have h29 : i - at_ < 2 ∨ 8 ≤ i - at_ := by omega
          clear h28
          rcases h29 with h29 | h29
          all_goals
            go_upto_region 10 with (fail)
            clear h29
            by_cases h0 : M = 0
            · subst h0
              have hnil : own = [] := List.eq_nil_of_length_eq_zero HML.out.symm
              have HRES : Hid (word2At n at_ own i = (0, false)) := by unfold Hid; rw [HW2.out, if_neg (fun h => h.1 hnil)]
              clear hnil
              go_wp2_with fail
              go_ret2
              refine ⟨?_, HB1.out⟩
              rw [HRES.out]
              try rfl
            · have hMi : (0 : Int) < (M : Int) := by omega
              obtain ⟨ao', c', e, -, -, -, hcx⟩ := HV1.out
              have hlen := HML.out
              rw [← hlen] at e
              simp only [Value.slice.injEq] at e
              obtain ⟨rfl, -, rfl⟩ := e
              obtain ⟨g, o, rfl, d1⟩ := hcx 0 (by omega)
              rw [Nat.add_zero] at d1
              have hx : own.getD 0 0 < 256 := HOB.out _ (getD_in0 (by omega))
              have hne : own ≠ [] := fun h => h0 (by rw [hlen, h]; rfl)
              obtain ⟨x, hxx⟩ : ∃ x, x = own.getD 0 0 := ⟨_, rfl⟩
              have HW3 := HW2.out
              rw [← hxx] at d1 hx HW3
              have hxi : (x : Int) < 256 := by omega
              clear hcx hlen hxx HW2
              by_cases hz : 0 ≤ i - 1080 - 8 * (x : Int) ∧ i - 1080 - 8 * (x : Int) < 8
              · rw [if_pos ⟨hne, hz⟩] at HW3
                obtain ⟨q, hq⟩ : ∃ q : Nat, q = 6 + (i - 1080 - 8 * (x : Int)).toNat := ⟨_, rfl⟩
                rw [← hq] at HW3
                have HW4 := Lib.hid HW3
                obtain ⟨r, hr⟩ : ∃ r : Nat, r = (i - 1080 - 8 * (x : Int)).toNat := ⟨_, rfl⟩
                have hri : i - 1080 - 8 * (x : Int) = (r : Int) := by omega
                have hr8 : (r : Int) < 8 := by omega
                have hqi : 6 + (r : Int) = (q : Int) := by omega
                have hq14 : (q : Int) < 14 := by omega
                have HFQ := Lib.hid (HF.out q (by omega))
                clear HW3 hq hr hz hne HF
                go_wp2_with (go_at_call 103; refine HFQ.out.mono ?_; rintro e w2 ⟨rfl, rfl⟩)
                all_goals
                  go_ret2
                  refine ⟨?_, HB1.out⟩
                  rw [HW4.out]
                  try rfl
              · rw [if_neg (fun h => hz h.2)] at HW3
                have HW4 := Lib.hid HW3
                have hz2 : i - 1080 - 8 * (x : Int) < 0 ∨ 8 ≤ i - 1080 - 8 * (x : Int) := by omega
                clear HW3 hz hne HF
                rcases hz2 with hz2 | hz2
                all_goals
                  try have hz3 : ¬ i - 1080 - 8 * (x : Int) < 8 := by omega
                  go_wp2_with fail
                  all_goals
                    go_ret2
                    refine ⟨?_, HB1.out⟩
                    rw [HW4.out]
                    try rfl
      · have hv0 : word2At n at_ own i = wordB n.ents own at_ i 0 4 := by unfold word2At; rw [if_neg hA, if_neg hB, if_neg (by rw [← HKD.out]; exact hk)]
        have HW0 := Lib.hid hv0
        have hdir := (HR.out.isDir (by rw [← HKD.out]; exact hk)).2
        have hnd : need2 n = sumB n.ents 4 := by unfold need2; rw [if_neg (by rw [← HKD.out]; exact hk)]
        have HSU : Hid (∀ b, b ≤ 4 → sumB n.ents b ≤ M) := fun b hb => by rw [HML.out, HON.out, hnd]; exact sumB_mono n.ents hb
        have HHA := Lib.hid (fun wx (hm : Mod nob w0 wx) (b : Nat) (hb : b < 4) => ref_bucket (HE.out.mod hm (fun _ _ _ h => h)) hdir.2.1 (fun k hk => (hdir.1 k hk).1) b hb)
        have HOK : Hid (∀ b k, k < (bktL n.ents b).length → goodB ((bktL n.ents b).getD k default).name.data.toList = true ∧ 0 ≤ ((bktL n.ents b).getD k default).ino ∧ ((bktL n.ents b).getD k default).ino < 32) := by
          intro b k hk
          have hm : (bktL n.ents b).getD k default ∈ n.ents := by
            rw [List.getD_eq_getElem?_getD, List.getElem?_eq_getElem hk]
            exact (List.mem_filter.1 (List.getElem_mem hk)).1
          obtain ⟨q, hq, he⟩ := List.mem_iff_getElem.1 hm
          have := hdir.1 q hq
          unfold entOK at this
          rw [List.getD_eq_getElem?_getD, List.getElem?_eq_getElem hq] at this
          rw [← he]
          exact ⟨this.1, this.2.2.1, this.2.2.2⟩
        have HL24 := Lib.hid hdir.2.1
        have hkb : ((kd : Int) == 1) = false := beq_false_of_ne hk
        clear hv0 hdir hnd hA hB hk
        go_upto_region 15 with (fail)
        have hq0 : (i - at_ == 0) = false := beq_false_of_ne hd0
        have hq1 : (i - at_ == 1) = false := beq_false_of_ne hd1
        clear c1 c3 hkb hd0 hd1
        go_wp2_with fail
        try rw [hq0]
        try rw [hq1]
        clear hq0 hq1
        go_loopg [13, 14] 4 (fun gk fv bv wr => ∃ b : Nat, b + gk = 4 ∧ bv = .int .i64 b ∧ fv = .int .i64 (sumB n.ents b : Nat) ∧ Hid (word2At n at_ own i = wordB n.ents own at_ i b gk) ∧ Hid (Mod nob w0 wr))
        case atStart => exact ⟨0, by omega, rfl, rfl, HW0, Mod.refl _ _⟩
        case round =>
          obtain ⟨b, hb, rfl, rfl, HH, HM⟩ := hrel
          have hs40 := HSU.out b (by omega)
          by_cases hlt : b < 4
          · have hki : (b : Int) < 4 := by omega
            have c17 := (HB0.out.mod HM.out (fun h => h)).at.ev
            simp only [Nat.zero_add] at c17
            have hsB : sumB n.ents (b + 1) = sumB n.ents b + dB n.ents b := rfl
            have hs1 := HSU.out (b + 1) (by omega)
            have hbl : (bktL n.ents b).length ≤ 24 := Nat.le_trans (bktL_len n.ents b) HL24.out
            have HBK := Lib.hid (HHA.out wr HM.out b hlt)
            obtain ⟨f, rfl⟩ : ∃ f, gk = f + 1 := ⟨gk - 1, by omega⟩
            have hstep : wordB n.ents own at_ i b (f + 1) = if i - at_ = 2 + (b : Int) then (if 0 < dB n.ents b then ((own.getD (sumB n.ents b) 0 : Nat) : Int) else 0, true) else
              match hitK (bktL n.ents b) own (sumB n.ents b) (dB n.ents b) i 0 (dB n.ents b) with
              | some v => (v, true)
              | none => wordB n.ents own at_ i (b + 1) f := rfl
            have HSTEP := Lib.hid (HH.out.trans hstep)
            have hdq : dB n.ents b = ((bktL n.ents b).length + 2) / 3 := rfl
            obtain ⟨T, hT⟩ : ∃ T, T = (bktL n.ents b).length := ⟨_, rfl⟩
            obtain ⟨d, hd⟩ : ∃ d, d = dB n.ents b := ⟨_, rfl⟩
            obtain ⟨fr, hfr⟩ : ∃ fr, fr = sumB n.ents b := ⟨_, rfl⟩
            obtain ⟨l, hl⟩ : ∃ l, l = bktL n.ents b := ⟨_, rfl⟩
            have HLQ := Lib.hid (HOK.out b)
            rw [← hd] at hdq HSTEP hsB
            rw [← hT] at hdq hbl
            rw [← hfr] at HSTEP hs40 hsB ⊢
            rw [← hl] at HSTEP HBK hT HLQ
            rw [hsB] at hs1
            have HTT := Lib.hid hT
            have HSB2 := Lib.hid hsB
            have hdT : ((T : Int) + 2) / 3 = (d : Int) := by omega
            have hd8 : d ≤ 8 := by omega
            clear hstep hl hfr hd hT hsB HH hdq
            go_wp2_with fail
            refine HBK.out.mono ?_
            rintro e w2 ⟨v, rfl, hv, hb2⟩
            have HV2 := Lib.hid hv
            obtain ⟨va, vc, rfl, v1, v2, -, -⟩ := hv
            unfold maxLen at v2
            rw [← HTT.out] at HV2 v1 ⊢
            have HM2 : Hid (Mod nob w0 w2) := HM.out.step (mod_of_below hb2) (fun _ h => h)
            clear hb2 HBK c17 HM
            have hdr : (0 : Int) ≤ ((T : Int) + 2) / 3 := by omega
            go_upto_region 21 with (fail)
            have HVN : Hid (HoldsN w2 (.slice ta M tc) own) := HV.out.mod HM2.out (fun _ _ _ h => h)
            by_cases hb2 : i - at_ = 2 + (b : Int)
            · have HRES := HSTEP.out
              rw [if_pos hb2] at HRES
              by_cases hd0 : 0 < d
              · rw [if_pos hd0] at HRES
                have HRES2 := Lib.hid HRES
                have hdi : (0 : Int) < (d : Int) := by omega
                have hfM : (fr : Int) < (M : Int) := by omega
                obtain ⟨ao', c', e, -, -, -, hcx⟩ := HVN.out
                have hlen := HML.out
                rw [← hlen] at e
                simp only [Value.slice.injEq] at e
                obtain ⟨rfl, -, rfl⟩ := e
                obtain ⟨g, o, rfl, d1⟩ := hcx fr (by omega)
                have hx : own.getD fr 0 < 256 := HOB.out _ (getD_in0 (by omega))
                obtain ⟨x, hxx⟩ : ∃ x, x = own.getD fr 0 := ⟨_, rfl⟩
                rw [← hxx] at d1 hx HRES2
                have hxi : (x : Int) < 256 := by omega
                clear hcx hlen hxx HRES
                go_wp2_with fail
                go_ret2
                refine ⟨?_, HBEL.out.trans (HM2.out.below HBEL.out.size (fun b h => h.elim))⟩
                rw [HRES2.out]
                rfl
              · rw [if_neg hd0] at HRES
                have HRES2 := Lib.hid HRES
                obtain rfl : d = 0 := by omega
                clear HRES
                go_wp2_with fail
                go_ret2
                refine ⟨?_, HBEL.out.trans (HM2.out.below HBEL.out.size (fun b h => h.elim))⟩
                rw [HRES2.out]
                rfl
            · have HRES := HSTEP.out
              rw [if_neg hb2] at HRES
              have HRES2 := Lib.hid HRES
              clear HRES HSTEP
              have hbq : (i - at_ == 2 + (b : Int)) = false := beq_false_of_ne hb2
              go_upto_region 25 with (fail)
              clear hb2
              go_wp2_with fail
              rw [hdT]
              try rw [hbq]
              clear hdT hdr hbq
              go_loopg [17] d (fun gk kv wx => ∃ k : Nat, k + gk = d ∧ kv = .int .i64 k ∧ Hid (hitK l own fr d i 0 d = hitK l own fr d i k gk) ∧ w2 = wx)
              case atStart => exact ⟨0, by omega, rfl, rfl, rfl⟩
              case round =>
                obtain ⟨k, hk, rfl, HH, rfl⟩ := hrel
                by_cases hlt2 : k < d
                · have hkd : (k : Int) < (d : Int) := by omega
                  have hfkM : (fr : Int) + (k : Int) < (M : Int) := by omega
                  have hfk0 : (0 : Int) ≤ (fr : Int) + (k : Int) := by omega
                  obtain ⟨ao', c', e, -, -, -, hcx⟩ := HVN.out
                  have hlen := HML.out
                  rw [← hlen] at e
                  simp only [Value.slice.injEq] at e
                  obtain ⟨rfl, -, rfl⟩ := e
                  obtain ⟨g, o, rfl, d1⟩ := hcx (fr + k) (by omega)
                  have hx : own.getD (fr + k) 0 < 256 := HOB.out _ (getD_in0 (by omega))
                  obtain ⟨f2, rfl⟩ : ∃ f2, gk = f2 + 1 := ⟨gk - 1, by omega⟩
                  have hstep : hitK l own fr d i k (f2 + 1) = if 0 ≤ i - 1080 - 8 * ((own.getD (fr + k) 0 : Nat) : Int) ∧ i - 1080 - 8 * ((own.getD (fr + k) 0 : Nat) : Int) ≤ 7 then some (wd3 l own fr d k (i - 1080 - 8 * ((own.getD (fr + k) 0 : Nat) : Int)).toNat) else hitK l own fr d i (k + 1) f2 := rfl
                  obtain ⟨x, hxx⟩ : ∃ x, x = own.getD (fr + k) 0 := ⟨_, rfl⟩
                  rw [← hxx] at d1 hx hstep
                  have hxi : (x : Int) < 256 := by omega
                  obtain ⟨fk, hfk⟩ : ∃ fk, fk = fr + k := ⟨_, rfl⟩
                  rw [← hfk] at d1
                  have hfki : (fr : Int) + (k : Int) = (fk : Int) := by omega
                  have hfkM2 : (fk : Int) < (M : Int) := by omega
                  clear hxx hfkM hfk0
                  by_cases hz : i - 1080 - 8 * (x : Int) < 0 ∨ 7 < i - 1080 - 8 * (x : Int)
                  · rw [if_neg (by omega)] at hstep
                    have HST := Lib.hid (HH.out.trans hstep)
                    clear hstep hcx hlen hfk
                    rcases hz with hz | hz
                    · have hz0 : ¬ i - 1080 - 8 * (x : Int) = 0 := by omega
                      go_wp2_with fail
                      go_roundg f2
                      case measure => omega
                      case rel => exact ⟨k + 1, by omega, by go_num, HST, rfl⟩
                    · have hz0 : ¬ i - 1080 - 8 * (x : Int) = 0 := by omega
                      have hz1 : ¬ i - 1080 - 8 * (x : Int) < 0 := by omega
                      go_wp2_with fail
                      go_roundg f2
                      case measure => omega
                      case rel => exact ⟨k + 1, by omega, by go_num, HST, rfl⟩
                  · rw [if_pos (by omega)] at hstep
                    obtain ⟨r, hr⟩ : ∃ r : Nat, r = (i - 1080 - 8 * (x : Int)).toNat := ⟨_, rfl⟩
                    rw [← hr] at hstep
                    have hri : i - 1080 - 8 * (x : Int) = (r : Int) := by omega
                    have hr8 : r < 8 := by omega
                    have hres := HRES2.out
                    rw [HH.out, hstep] at hres
                    dsimp only at hres
                    have HRES3 := Lib.hid hres
                    clear hstep hres HRES2 HH hz hr
                    by_cases hr0 : r = 0
                    · subst hr0
                      have hri0 : i - 1080 - 8 * (x : Int) = 0 := hri
                      clear hri
                      by_cases hk1 : k + 1 < d
                      · have hwd : wd3 l own fr d k 0 = ((own.getD (fr + k + 1) 0 : Nat) : Int) := by unfold wd3; rw [if_pos rfl, if_pos hk1]
                        obtain ⟨g', o', e', d2⟩ := hcx (fr + k + 1) (by omega)
                        simp only [Option.some.injEq, Addr.mk.injEq, and_true] at e'
                        obtain ⟨rfl, rfl⟩ := e'
                        have hy : own.getD (fr + k + 1) 0 < 256 := HOB.out _ (getD_in0 (by omega))
                        obtain ⟨y, hyy⟩ : ∃ y, y = own.getD (fr + k + 1) 0 := ⟨_, rfl⟩
                        rw [← hyy] at d2 hy hwd
                        rw [← hfk] at d2
                        have HWD := Lib.hid hwd
                        have hyi : (y : Int) < 256 := by omega
                        have hk1i : (k : Int) + 1 < (d : Int) := by omega
                        have hfk1 : (fk : Int) + 1 < (M : Int) := by omega
                        clear hwd hyy hcx hlen hfk
                        go_wp2_with fail
                        go_ret2
                        refine ⟨?_, HBEL.out.trans (HM2.out.below HBEL.out.size (fun b h => h.elim))⟩
                        rw [HRES3.out, HWD.out]
                        rfl
                      · have hwd : wd3 l own fr d k 0 = 0 := by unfold wd3; rw [if_pos rfl, if_neg hk1]
                        have HWD := Lib.hid hwd
                        have hk1i : ¬ (k : Int) + 1 < (d : Int) := by omega
                        have hk8 : (k : Int) < 8 := by omega
                        clear hwd hcx hlen hfk
                        go_wp2_with fail
                        all_goals
                          go_ret2
                          refine ⟨?_, HBEL.out.trans (HM2.out.below HBEL.out.size (fun b h => h.elim))⟩
                          rw [HRES3.out, HWD.out]
                          try rfl
                    · obtain ⟨s, rfl⟩ : ∃ s, r = s + 1 := ⟨r - 1, by omega⟩
                      have hri1 : i - 1080 - 8 * (x : Int) = (s : Int) + 1 := by omega
                      have hs1 : (s : Int) + 1 - 1 = (s : Int) := by omega
                      have hs8 : (s : Int) < 7 := by omega
                      have hs0 : ¬ (s : Int) + 1 = 0 := by omega
                      have hs2 : (0 : Int) ≤ (s : Int) / 2 ∧ (s : Int) / 2 < 4 := by omega
                      obtain ⟨hs20, hs24⟩ := hs2
                      have hk8 : (k : Int) < 8 := by omega
                      obtain ⟨q, hq⟩ : ∃ q, q = 3 * k + s / 2 := ⟨_, rfl⟩
                      have hqi : 3 * (k : Int) + (s : Int) / 2 = (q : Int) := by omega
                      have hq0 : (q : Int) < 40 := by omega
                      have hwd : wd3 l own fr d k (s + 1) = if s + 1 = 7 then 0 else if q < T then (if (s + 1) % 2 = 1 then ((nword (l.getD q default).name : Nat) : Int) else (l.getD q default).ino) else 0 := by
                        unfold wd3
                        rw [if_neg (by omega), Nat.add_sub_cancel, ← hq, ← HTT.out]
                      clear hcx hlen hfk hri hq hr0
                      by_cases h7 : s + 1 = 7
                      · rw [if_pos h7] at hwd
                        obtain rfl : s = 6 := by omega
                        have HWD := Lib.hid hwd
                        clear hwd h7
                        go_wp2_with fail
                        all_goals
                          go_ret2
                          refine ⟨?_, HBEL.out.trans (HM2.out.below HBEL.out.size (fun b h => h.elim))⟩
                          rw [HRES3.out, HWD.out]
                          try rfl
                      · rw [if_neg h7] at hwd
                        have h7i : ¬ (s : Int) + 1 = 7 := by omega
                        have h7b : ((s : Int) + 1 == 7) = false := beq_false_of_ne h7i
                        have h0b : ((s : Int) + 1 == 0) = false := beq_false_of_ne hs0
                        by_cases hqT : q < T
                        · rw [if_pos hqT] at hwd
                          have hqTi : (q : Int) < (T : Int) := by omega
                          obtain ⟨ao', c', e, -, -, -, hce⟩ := HV2.out
                          simp only [Value.slice.injEq] at e
                          obtain ⟨rfl, -, rfl⟩ := e
                          obtain ⟨g2, o2, rfl, d2, d3⟩ := hce q (by rw [← HTT.out]; exact hqT)
                          obtain ⟨g1, g2', g3'⟩ := HLQ.out q (by rw [← HTT.out]; exact hqT)
                          have hwr : ∀ wx, Calls Try.prog 92 #[.string (l.getD q default).name] wx fun e w' => e = .returned (.int .u64 (nword (l.getD q default).name : Nat)) ∧ wx = w' := fun wx => ref_word _ (good_size g1).2 wx
                          have HWR := Lib.hid hwr
                          clear hwr hce g1
                          generalize (l.getD q default).name = nm at *
                          generalize (l.getD q default).ino = ino at *
                          by_cases hev : (s + 1) % 2 = 1
                          · have hevi : ((s : Int) + 1) % 2 = 1 := by omega
                            rw [if_pos hev] at hwd
                            have HWD := Lib.hid hwd
                            clear hwd hev h7
                            go_wp2_with (go_at_call 92; refine (HWR.out _).mono ?_; rintro e wx ⟨rfl, rfl⟩)
                            all_goals
                              go_ret2
                              refine ⟨?_, HBEL.out.trans (HM2.out.below HBEL.out.size (fun b h => h.elim))⟩
                              rw [HRES3.out, HWD.out]
                              try rfl
                          · have hevi : ((s : Int) + 1) % 2 = 0 := by omega
                            rw [if_neg hev] at hwd
                            have HWD := Lib.hid hwd
                            clear hwd hev h7
                            go_wp2_with fail
                            all_goals
                              go_ret2
                              refine ⟨?_, HBEL.out.trans (HM2.out.below HBEL.out.size (fun b h => h.elim))⟩
                              rw [HRES3.out, HWD.out]
                              try rfl
                        · have hqTi : ¬ (q : Int) < (T : Int) := by omega
                          rw [if_neg hqT] at hwd
                          have HWD := Lib.hid hwd
                          clear hwd h7
                          go_wp2_with fail
                          all_goals
                            go_ret2
                            refine ⟨?_, HBEL.out.trans (HM2.out.below HBEL.out.size (fun b h => h.elim))⟩
                            rw [HRES3.out, HWD.out]
                            try rfl
                · have hge : ¬ (k : Int) < (d : Int) := by omega
                  obtain rfl : gk = 0 := by omega
                  have hres := HRES2.out
                  rw [HH.out] at hres
                  have hres2 : word2At n at_ own i = wordB n.ents own at_ i (b + 1) f := hres
                  have HRES3 := Lib.hid hres2
                  have hfd : (fr : Int) + (d : Int) < 100 := by have := HM40.out; omega
                  clear hres hres2 HH HRES2
                  go_wp2_with fail
                  go_roundg f
                  case measure => omega
                  case rel => exact ⟨b + 1, by omega, by go_num, by rw [HSB2.out]; congr 1, HRES3, HM2⟩
          · have hge : ¬ (b : Int) < 4 := by omega
            obtain rfl : gk = 0 := by omega
            have hres : word2At n at_ own i = (0, decide (i - at_ = 6 ∨ i - at_ = 7)) := HH.out
            have HRES : Hid (word2At n at_ own i = (0, (i - at_ == 6 || i - at_ == 7))) := by
              unfold Hid
              rw [hres]
              congr 1
              by_cases h6 : i - at_ = 6
              · simp [h6]
              · by_cases h7 : i - at_ = 7
                · simp [h7]
                · simp [h6, h7]
            clear hres HH
            go_wp2_with fail
            all_goals
              go_ret2
              refine ⟨?_, HBEL.out.trans (HM.out.below HBEL.out.size (fun b h => h.elim))⟩
              rw [HRES.out]
              first | rfl | (rename (i - at_ = 6) => hx6; rw [hx6]; rfl) | (rename (i - at_ = 7) => hx6; rw [hx6]; rfl)
end Go.Proofs.Ytfpnmphmngdkdaa
