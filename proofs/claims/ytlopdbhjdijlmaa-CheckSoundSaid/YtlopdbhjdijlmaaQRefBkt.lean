/-
  imagoref07.Bucket: a contract. No condition but good names.
  imagoref07.Need: a contract. No condition but the inode's being right.
-/
import Derived.Test.YtlopdbhjdijlmaaQHash
import Derived.Test.YtlopdbhjdijlmaaQRead2
import Derived.Test.YtlopdbhjdijlmaaQNeed2

namespace Go.Proofs.Ytlopdbhjdijlmaa
open Go.ChangeShapes Go.WideShapes Go.ChangeAt Go.RowKit
set_option linter.unusedSimpArgs false
set_option linter.unusedVariables false

set_option maxRecDepth 20000 in
set_option maxHeartbeats 4000000 in
theorem ref_bucket {w : World} {ev : Value} {l : List En} (he : HoldsE w ev l) (hl : l.length ≤ 24) (hg : ∀ k, k < l.length → goodB (l.getD k default).name.data.toList = true) (b : Nat) (hb4 : b < 4) :
    Calls Try.prog 103 #[ev, .int .i64 b] w fun e w' => ∃ v, e = .returned v ∧ HoldsE w' v (bktL l b) ∧ Below w.heap.size w w' := by
  obtain ⟨i1, hi1, hy0, hy1, hy2⟩ := info_parts Try.infoEntry
  have HE := Lib.hid he
  have HG := Lib.hid hg
  obtain ⟨ao, c, rfl, e1, e2, -, -⟩ := he
  obtain ⟨L, hL⟩ : ∃ L, L = l.length := ⟨_, rfl⟩
  rw [← hL] at e1 hl HE ⊢
  have HL := Lib.hid hL
  unfold maxLen at e2
  clear hg hL
  go_enter Try.func103, Try.ntmps103
  go_wp2_with fail
  go_loopg [5, 6] L (fun gk v iv wr => ∃ k : Nat, k + gk = L ∧ iv = .int .i64 k ∧ Hid (wr.ownsRow w.heap.size 27 2 v (bktL (l.take k) b).length (enC (bktL (l.take k) b))) ∧ Hid (Below w.heap.size w wr))
  case atStart => exact ⟨0, by omega, rfl, World.ownsRow_nil _ _ _ _, Below.refl _ _⟩
  case round =>
    obtain ⟨k, hk, rfl, HO, HB⟩ := hrel
    obtain ⟨oa, oc, rfl, o1, o2, -⟩ := own_shape HO.out
    unfold maxLen at o2
    obtain ⟨m, hm⟩ : ∃ m, m = (bktL (l.take k) b).length := ⟨_, rfl⟩
    rw [← hm] at o1 HO ⊢
    have hm24 : m ≤ 24 := by rw [hm]; have h1 := bktL_len (l.take k) b; rw [List.length_take] at h1; have := HL.out; omega
    have HMM := Lib.hid hm
    clear hm
    by_cases hlt : k < L
    · have hki : (k : Int) < (L : Int) := by omega
      obtain ⟨ao', c', e, -, -, -, hcell⟩ := HE.out.below HB.out
      simp only [Value.slice.injEq] at e
      obtain ⟨rfl, -, rfl⟩ := e
      obtain ⟨g, o, rfl, d1, d2⟩ := hcell k (by rw [← HL.out]; exact hlt)
      have hgd := HG.out k (by rw [← HL.out]; exact hlt)
      have htk : l.take (k + 1) = l.take k ++ [l.getD k default] := by
        have hkl : k < l.length := by rw [← HL.out]; exact hlt
        rw [List.take_succ_eq_append_getElem hkl, List.getD_eq_getElem?_getD, List.getElem?_eq_getElem hkl]
        rfl
      obtain ⟨x, hx⟩ : ∃ x, x = l.getD k default := ⟨_, rfl⟩
      rw [← hx] at d1 d2 hgd htk
      obtain ⟨nm, ino⟩ := x
      dsimp only at d1 d2 hgd
      have hsn := bktL_snoc (l.take k) ⟨nm, ino⟩ b
      rw [← htk] at hsn
      dsimp only at hsn
      have hbk : bucketOf nm = PackM.sum [nword nm] % 4 := rfl
      have HRW := Lib.hid (fun (w : World) => ref_word nm (good_size hgd).2 w)
      have HSUM : Hid (∀ w : World, Calls Try.prog 126 #[.slice (some ⟨w.heap.size, 0, none⟩) 1 1] (w.alloc (.cells #[.int .u64 (nword nm : Nat)] 37)) fun e w' => e = .returned (.int .u32 (PackM.sum [nword nm] : Nat)) ∧ (w.alloc (.cells #[.int .u64 (nword nm : Nat)] 37)) = w') := by
        intro w
        exact ref_sum [nword nm] (by simpa using nword_lt (good_size hgd).2) (lit_one w (nword nm))
      have hsl := PackM.sum_lt [nword nm]
      generalize PackM.sum [nword nm] = S at HSUM hsl hbk
      generalize nword nm = y at HRW HSUM
      have hbk2 : ((bucketOf nm : Nat) : Int) = (S : Int) % 4 := by rw [hbk]; omega
      generalize bucketOf nm = bk at hsn hbk2
      have hs4 : (S : Int) < 4294967296 := by omega
      have HTK := Lib.hid htk
      clear hcell hgd htk hx hbk
      by_cases hbb : bk = b
      · rw [if_pos hbb] at hsn
        have HSN := Lib.hid hsn
        have hq : ((S : Int) % 4 == (b : Int)) = true := by simp; omega
        have HQ := Lib.hid hq
        have HBA : Hid (Below w.heap.size w (wr.alloc (.cells #[.int .u64 (y : Nat)] 37))) := HB.out.alloc HB.out.size _
        have HOA : Hid ((wr.alloc (.cells #[.int .u64 (y : Nat)] 37)).ownsRow w.heap.size 27 2 (.slice oa m oc) m (enC (bktL (l.take k) b))) := HO.out.alloc _
        have HWA : Hid (w.heap.size ≤ (wr.alloc (.cells #[.int .u64 (y : Nat)] 37)).heap.size) := HBA.out.size
        clear hsn hbb
        go_wp2_with fail
        refine (HRW.out _).mono ?_
        rintro e w' ⟨rfl, rfl⟩
        go_wp2_with fail
        refine (HSUM.out _).mono ?_
        rintro e w' ⟨rfl, rfl⟩
        have e1' := ((Mod.refl nob wr).alloc (.cells #[.int .u64 (y : Nat)] 37)).cell d1 (fun h => h)
        have e2' := ((Mod.refl nob wr).alloc (.cells #[.int .u64 (y : Nat)] 37)).cell d2 (fun h => h)
        generalize wr.alloc (.cells #[.int .u64 (y : Nat)] 37) = w5 at *
        clear d1 d2
        go_wp2_with (at_builtin; refine wpList_append_own_at _ rfl (.tmp 25) (.tmp 30) 23 rfl w.heap.size 27 i1 _ 2 24 Try.underlying23 hi1 hy0 hy1 hy2 rfl (by decide) _ m (enC (bktL (l.take k) b)) rfl (HOA.out.alloc _) ⟨w5.heap.size, 0, none⟩ 1 1 [.string nm, .int .i64 ino] rfl rfl (cells_new _ _ _) (by simp [Value.oneCell']) (by unfold maxLen; omega) (by omega) (by have := HWA.out; simp; omega) ?_)
        intro v' w6 hown hgr _ hat
        have HO6 : Hid (w6.ownsRow w.heap.size 27 2 v' (bktL (l.take (k + 1)) b).length (enC (bktL (l.take (k + 1)) b))) := by
          unfold Hid
          rw [HSN.out, List.length_append, enC_snoc, ← HMM.out]
          exact hown
        have HB6 : Hid (Below w.heap.size w w6) := (HBA.out.alloc HBA.out.size _).grown hgr (by have := HWA.out; simp; omega) (fun q hq => own_ge HOA.out q hq)
        clear hown hgr hat
        obtain ⟨pa, pc, rfl, -, -, -⟩ := own_shape HO6.out
        go_wp2_with fail
        go_roundg (gk - 1)
        case measure => omega
        case rel => exact ⟨k + 1, by omega, by go_num, HO6.out, HB6.out⟩
      · rw [if_neg hbb] at hsn
        have hq : ((S : Int) % 4 == (b : Int)) = false := by simp; omega
        have HO6 : Hid (wr.ownsRow w.heap.size 27 2 (.slice oa m oc) (bktL (l.take (k + 1)) b).length (enC (bktL (l.take (k + 1)) b))) := by
          unfold Hid
          rw [hsn, ← HMM.out]
          exact HO.out
        clear hsn hbb
        go_wp2_with fail
        refine (HRW.out _).mono ?_
        rintro e w' ⟨rfl, rfl⟩
        go_wp2_with fail
        refine (HSUM.out _).mono ?_
        rintro e w' ⟨rfl, rfl⟩
        have HB6 : Hid (Below w.heap.size w (wr.alloc (.cells #[.int .u64 (y : Nat)] 37))) := HB.out.alloc HB.out.size _
        have HO7 := Lib.hid (HO6.out.alloc (.cells #[.int .u64 (y : Nat)] 37))
        go_wp2_with fail
        go_roundg (gk - 1)
        case measure => omega
        case rel => exact ⟨k + 1, by omega, by go_num, HO7.out, HB6.out⟩
    · have hge : ¬ (k : Int) < (L : Int) := by omega
      have hkl : l.take k = l := List.take_of_length_le (by have := HL.out; omega)
      have hfin : HoldsE wr (.slice oa m oc) (bktL l b) := by
        have := HO.out
        rw [hkl] at this
        exact holdsE_of_own (by rw [HMM.out, hkl]) this
      have HF := Lib.hid hfin
      clear hkl hfin
      go_wp2_with fail
      go_ret
      exact ⟨_, rfl, HF.out, HB.out⟩
end Go.Proofs.Ytlopdbhjdijlmaa

namespace Go.Proofs.Ytlopdbhjdijlmaa
open Go.ChangeShapes Go.WideShapes Go.ChangeAt Go.RowKit
set_option linter.unusedSimpArgs false
set_option linter.unusedVariables false

set_option maxRecDepth 20000 in
set_option maxHeartbeats 4000000 in
theorem ref_need2 {w : World} {n : Ino} {ev : Value} (hn : n.Ok) (he : HoldsE w ev n.ents) (hr : RightP n) :
    Calls Try.prog 62 #[.agg (inoA n ev)] w fun e w' => e = .returned (.int .i64 (need2 n : Nat)) ∧ Below w.heap.size w w' := by
  have hb := InoB.new w hn.len ev
  have HBEL : Hid (Below w.heap.size w (w.alloc (.cells (inoA n ev) 25))) := (Below.refl _ _).alloc (Nat.le_refl _) _
  have HE := Lib.hid (he.below HBEL.out)
  have c1 := hb.at.c1
  simp only [Nat.zero_add] at c1
  have hrk : n.kind = 1 ∨ n.kind ≠ 1 := by omega
  obtain ⟨kd, hkd⟩ : ∃ kd, kd = n.kind := ⟨_, rfl⟩
  rw [← hkd] at c1
  have HKD := Lib.hid hkd
  by_cases hk : kd = 1
  · have hnd : need2 n = if 6 < (RunsM.runs n.bl).length then 1 else 0 := by unfold need2; rw [if_pos (by rw [← hkd]; exact hk)]
    have HND := Lib.hid hnd
    have HRB := Lib.hid (hb.at.blocks hn.len)
    have HSB : Hid ((Try.prog.info? 22).map (·.size) = some (n.bl.map (Value.int .i64)).length) := by
      unfold Hid; rw [List.length_map, hn.len]; exact Try.info13
    have HRU := Lib.hid (fun wx => (by have := ref_runs n.bl hn.len wx; rw [← RunsM.runs_eq n.bl hn.len] at this; exact this))
    have hlen := (RunsM.fit_upto n.bl 13).len
    obtain ⟨M, hM⟩ : ∃ M, M = (RunsM.runs n.bl).length := ⟨_, rfl⟩
    have hM13 : M ≤ 13 := by rw [hM]; exact hlen
    rw [← hM] at HND HRU
    subst hk
    clear hb hn he hr hkd hnd hlen hM hrk
    have hsome : ∀ (b : Bool), b = decide (6 < M) → need2 n = if b = true then 1 else 0 := fun b hb => by rw [HND.out, hb]; by_cases h : 6 < M <;> simp [h]
    by_cases h6 : 6 < M
    · have h6i : (6 : Int) < (M : Int) := by omega
      have HN1 : Hid (need2 n = 1) := by unfold Hid; rw [HND.out, if_pos h6]
      clear hsome h6
      go_enter Try.func62, Try.ntmps62
      go_wp2_with (first
        | (with_reducible refine wpList_load_mid (op := ⟨some 9, _, _, _, _, _⟩) rfl 22 _ rfl w.heap.size (0 + 4) rfl (n.bl.map (Value.int .i64)) _ HRB.out Try.underlying22 rfl HSB.out ?_)
        | (go_at_call 102; refine (HRU.out _).mono ?_; rintro e w1 ⟨v, rfl, hown, hb1⟩; obtain ⟨va, vc, rfl, s1, s2, -⟩ := own_shape hown))
      go_ret
      rw [HN1.out]
      exact ⟨rfl, HBEL.out.trans (hb1.mono HBEL.out.size)⟩
    · have h6i : ¬ (6 : Int) < (M : Int) := by omega
      have HN1 : Hid (need2 n = 0) := by unfold Hid; rw [HND.out, if_neg h6]
      clear hsome h6
      go_enter Try.func62, Try.ntmps62
      go_wp2_with (first
        | (with_reducible refine wpList_load_mid (op := ⟨some 9, _, _, _, _, _⟩) rfl 22 _ rfl w.heap.size (0 + 4) rfl (n.bl.map (Value.int .i64)) _ HRB.out Try.underlying22 rfl HSB.out ?_)
        | (go_at_call 102; refine (HRU.out _).mono ?_; rintro e w1 ⟨v, rfl, hown, hb1⟩; obtain ⟨va, vc, rfl, s1, s2, -⟩ := own_shape hown))
      go_ret
      rw [HN1.out]
      exact ⟨rfl, HBEL.out.trans (hb1.mono HBEL.out.size)⟩
  · have hnd : need2 n = sumB n.ents 4 := by unfold need2; rw [if_neg (by rw [← hkd]; exact hk)]
    have HND := Lib.hid hnd
    have hdir := (hr.isDir (by rw [← hkd]; exact hk)).2
    have HHA := Lib.hid (fun wx (hm : Mod nob (w.alloc (.cells (inoA n ev) 25)) wx) (b : Nat) (hb : b < 4) => ref_bucket (HE.out.mod hm (fun _ _ _ h => h)) hdir.2.1 (fun k hk => (hdir.1 k hk).1) b hb)
    have HIB : Hid (InoB (w.alloc (.cells (inoA n ev) 25)) w.heap.size n ev) := hb
    have hkb : ((kd : Int) == 1) = false := beq_false_of_ne hk
    have HL24 := Lib.hid hdir.2.1
    have HSL : Hid (∀ k, k ≤ 4 → sumB n.ents k ≤ 40) := fun k hk => by
      have h1 := sumB_le n.ents k
      have h2 := hdir.2.1
      have h3 : k * ((n.ents.length + 2) / 3) ≤ 4 * ((24 + 2) / 3) := Nat.mul_le_mul hk (by omega)
      omega
    clear hb hn he hr hkd hnd hdir hk hrk
    go_enter Try.func62, Try.ntmps62
    go_wp2_with fail
    generalize w.alloc (.cells (inoA n ev) 25) = w0 at *
    clear c1
    go_loopg [3, 4] 4 (fun gk dv iv wr => ∃ k : Nat, k + gk = 4 ∧ iv = .int .i64 k ∧ dv = .int .i64 (sumB n.ents k : Nat) ∧ Hid (Mod nob w0 wr))
    case atStart => exact ⟨0, by omega, rfl, rfl, Mod.refl _ _⟩
    case round =>
      obtain ⟨k, hk, rfl, rfl, HM⟩ := hrel
      have hs40 := HSL.out k (by omega)
      by_cases hlt : k < 4
      · have hki : (k : Int) < 4 := by omega
        have c17 := (HIB.out.mod HM.out (fun h => h)).at.ev
        simp only [Nat.zero_add] at c17
        have hsB : sumB n.ents (k + 1) = sumB n.ents k + ((bktL n.ents k).length + 2) / 3 := rfl
        have hbl := bktL_len n.ents k
        have HBK := Lib.hid (HHA.out wr HM.out k hlt)
        have h24 := HL24.out
        obtain ⟨M, hM⟩ : ∃ M, M = (bktL n.ents k).length := ⟨_, rfl⟩
        rw [← hM] at hsB hbl
        have HMM := Lib.hid hM
        have HSB := Lib.hid hsB
        obtain ⟨q, hq⟩ : ∃ q, q = sumB n.ents k := ⟨_, rfl⟩
        rw [← hq] at HSB hs40 ⊢
        clear hM hsB hq
        go_wp2_with fail
        refine HBK.out.mono ?_
        rintro e w2 ⟨v, rfl, hv, hb2⟩
        obtain ⟨va, vc, rfl, -, -, -, -⟩ := hv
        rw [← HMM.out]
        have HM2 : Hid (Mod nob w0 w2) := HM.out.step (mod_of_below hb2) (fun _ h => h)
        clear hb2
        have hM24 : M ≤ 24 := by omega
        go_wp2_with fail
        go_roundg (gk - 1)
        case measure => omega
        case rel => exact ⟨k + 1, by omega, by go_num, by rw [HSB.out]; congr 1, HM2.out⟩
      · have hge : ¬ (k : Int) < 4 := by omega
        obtain rfl : k = 4 := by omega
        go_wp2_with fail
        go_ret
        rw [HND.out]
        exact ⟨rfl, HBEL.out.trans (HM.out.below HBEL.out.size (fun b h => h.elim))⟩
end Go.Proofs.Ytlopdbhjdijlmaa
