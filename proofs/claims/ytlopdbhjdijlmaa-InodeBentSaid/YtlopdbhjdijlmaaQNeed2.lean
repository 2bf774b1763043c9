/-
  fmt2.blocks and fmt2.Need: contracts. No condition but the inode's being right.
-/
import Derived.Test.YtlopdbhjdijlmaaQHash
import Derived.Test.YtlopdbhjdijlmaaQRunsM

namespace Go.Proofs.Ytlopdbhjdijlmaa
open Go.ChangeShapes Go.WideShapes Go.ChangeAt Go.RowKit
set_option linter.unusedSimpArgs false
set_option linter.unusedVariables false

theorem blocks2_any (n : Nat) (hn : n ≤ 1000) (w : World) : Calls Try.prog 115 #[.int .i64 n] w fun e w' => e = .returned (.int .i64 ((n + 2) / 3 : Nat)) ∧ w = w' := by
  have h0 : (0 : Int) ≤ (n : Int) := Int.natCast_nonneg _
  have h1 : (n : Int) ≤ 1000 := by omega
  go_enter Try.func115, Try.ntmps115
  go_wp2
  go_ret
  have e : ((n : Int) + 3 - 1) / 3 = (((n + 2) / 3 : Nat) : Int) := by omega
  simp [e]
  try omega

theorem idx4 (vs : Nat → Value) (k : Nat) (hk : k < 4) (w : World) : (Instr.index 149 (.agg #[vs 0, vs 1, vs 2, vs 3]) (.int .i64 k)).run Try.prog w = .ok (vs k) w :=
  run_index_arr Try.underlying149 Try.underlying23 rfl (by kernel_rfl) _ _ k _ hk (by rcases (show k = 0 ∨ k = 1 ∨ k = 2 ∨ k = 3 by omega) with rfl | rfl | rfl | rfl <;> rfl) w

/-- How many blocks the buckets below a bucket take. -/
noncomputable def sumB (l : List En) : Nat → Nat
  | 0 => 0
  | k + 1 => sumB l k + ((bktL l k).length + 2) / 3
noncomputable def need2 (n : Ino) : Nat := if n.kind = 1 then (if 6 < (RunsM.runs n.bl).length then 1 else 0) else sumB n.ents 4

theorem sumB_le (l : List En) : ∀ k, sumB l k ≤ k * ((l.length + 2) / 3)
  | 0 => by simp [sumB]
  | k + 1 => by
    have h1 := sumB_le l k
    have h2 := bktL_len l k
    simp only [sumB]
    rw [Nat.add_mul]
    omega

theorem RightP.isDir {n : Ino} (h : RightP n) (hk : n.kind ≠ 1) : n.kind = 2 ∧ DirOK n := by
  rcases h.2.2.2 with ⟨h1, -⟩ | h1
  · exact absurd h1 hk
  · exact h1

set_option maxRecDepth 20000 in
set_option maxHeartbeats 1000000 in
theorem need2_any {w : World} {n : Ino} {ev : Value} (hn : n.Ok) (he : HoldsE w ev n.ents) (hr : RightP n) :
    Calls Try.prog 93 #[.agg (inoA n ev)] w fun e w' => e = .returned (.int .i64 (need2 n : Nat)) ∧ Below w.heap.size w w' := by
  have hb := InoB.new w hn.len ev
  have HBEL : Hid (Below w.heap.size w (w.alloc (.cells (inoA n ev) 25))) := (Below.refl _ _).alloc (Nat.le_refl _) _
  have HE := Lib.hid (he.below HBEL.out)
  have c1 := hb.at.c1
  simp only [Nat.zero_add] at c1
  have hrk : n.kind = 1 ∨ n.kind ≠ 1 := by omega
  obtain ⟨kd, hkd⟩ : ∃ kd, kd = n.kind := ⟨_, rfl⟩
  rw [← hkd] at c1
  have HKD := Lib.hid hkd
  by_cases hk : kd = 1
  · have hnd : need2 n = if 6 < (RunsM.runs n.bl).length then 1 else 0 := by unfold need2; rw [if_pos (by rw [← hkd]; exact hk)]
    have HND := Lib.hid hnd
    have HRB := Lib.hid (hb.at.blocks hn.len)
    have HSB : Hid ((Try.prog.info? 22).map (·.size) = some (n.bl.map (Value.int .i64)).length) := by
      unfold Hid; rw [List.length_map, hn.len]; exact Try.info13
    have HRU := Lib.hid (fun wx => fmt2_runs n.bl hn.len wx)
    have hlen := (RunsM.fit_upto n.bl 13).len
    obtain ⟨M, hM⟩ : ∃ M, M = (RunsM.runs n.bl).length := ⟨_, rfl⟩
    have hM13 : M ≤ 13 := by rw [hM]; exact hlen
    rw [← hM] at HND HRU
    subst hk
    clear hb hn he hr hkd hnd hlen hM hrk
    have hsome : ∀ (b : Bool), b = decide (6 < M) → need2 n = if b = true then 1 else 0 := fun b hb => by rw [HND.out, hb]; by_cases h : 6 < M <;> simp [h]
    by_cases h6 : 6 < M
    · have h6i : (6 : Int) < (M : Int) := by omega
      have HN1 : Hid (need2 n = 1) := by unfold Hid; rw [HND.out, if_pos h6]
      clear hsome h6
      go_enter Try.func93, Try.ntmps93
      go_wp2_with (first
        | (with_reducible refine wpList_load_mid (op := ⟨some 10, _, _, _, _, _⟩) rfl 22 _ rfl w.heap.size (0 + 4) rfl (n.bl.map (Value.int .i64)) _ HRB.out Try.underlying22 rfl HSB.out ?_)
        | (go_at_call 113; refine (HRU.out _).mono ?_; rintro e w1 ⟨v, rfl, hown, hb1⟩; obtain ⟨va, vc, rfl, s1, s2, -⟩ := own_shape hown))
      go_ret
      rw [HN1.out]
      exact ⟨rfl, HBEL.out.trans (hb1.mono HBEL.out.size)⟩
    · have h6i : ¬ (6 : Int) < (M : Int) := by omega
      have HN1 : Hid (need2 n = 0) := by unfold Hid; rw [HND.out, if_neg h6]
      clear hsome h6
      go_enter Try.func93, Try.ntmps93
      go_wp2_with (first
        | (with_reducible refine wpList_load_mid (op := ⟨some 10, _, _, _, _, _⟩) rfl 22 _ rfl w.heap.size (0 + 4) rfl (n.bl.map (Value.int .i64)) _ HRB.out Try.underlying22 rfl HSB.out ?_)
        | (go_at_call 113; refine (HRU.out _).mono ?_; rintro e w1 ⟨v, rfl, hown, hb1⟩; obtain ⟨va, vc, rfl, s1, s2, -⟩ := own_shape hown))
      go_ret
      rw [HN1.out]
      exact ⟨rfl, HBEL.out.trans (hb1.mono HBEL.out.size)⟩
  · have hnd : need2 n = sumB n.ents 4 := by unfold need2; rw [if_neg (by rw [← hkd]; exact hk)]
    have HND := Lib.hid hnd
    have hdir := (hr.isDir (by rw [← hkd]; exact hk)).2
    have HHA := Lib.hid (fun wx (hm : Mod nob (w.alloc (.cells (inoA n ev) 25)) wx) => hashed_any (HE.out.mod hm (fun _ _ _ h => h)) hdir.2.1 (fun k hk => (hdir.1 k hk).1))
    have c17 := hb.at.ev
    simp only [Nat.zero_add] at c17
    have hkb : ((kd : Int) == 1) = false := beq_false_of_ne hk
    have HL24 := Lib.hid hdir.2.1
    clear hb hn he hr hkd hnd hdir hk hrk
    go_enter Try.func93, Try.ntmps93
    go_wp2_with (go_at_call 114; refine (HHA.out _ (Mod.refl _ _)).mono ?_; rintro e w1 ⟨vs, rfl, hvs, -, hb1⟩)
    have HVS := Lib.hid hvs
    have HB1 : Hid (Below w.heap.size w w1) := HBEL.out.trans (hb1.mono HBEL.out.size)
    have HI4 := Lib.hid (idx4 vs)
    clear hvs hb1 HHA c1 c17 hkb
    go_loopg [3, 17] 4 (fun gk dv iv wr => ∃ k : Nat, k + gk = 4 ∧ iv = .int .i64 k ∧ dv = .int .i64 (sumB n.ents k : Nat) ∧ w1 = wr)
    case atStart => exact ⟨0, by omega, rfl, rfl, rfl⟩
    case round =>
      obtain ⟨k, hk, rfl, rfl, rfl⟩ := hrel
      by_cases hlt : k < 4
      · have hki : (k : Int) < 4 := by omega
        have hidx := HI4.out k hlt
        obtain ⟨va, vc, hv, -⟩ := HVS.out k hlt
        have hbl := bktL_len n.ents k
        have h24 := HL24.out
        have hsl := sumB_le n.ents k
        obtain ⟨m, hm⟩ : ∃ m, m = (bktL n.ents k).length := ⟨_, rfl⟩
        rw [← hm] at hv hbl
        have hs100 : sumB n.ents k ≤ 100 := by
          have : k * ((n.ents.length + 2) / 3) ≤ 4 * ((n.ents.length + 2) / 3) := Nat.mul_le_mul_right _ (by omega)
          omega
        obtain ⟨s, hs⟩ : ∃ s, s = sumB n.ents k := ⟨_, rfl⟩
        have hsucc : sumB n.ents (k + 1) = s + (m + 2) / 3 := by simp only [sumB]; rw [hs, hm]
        rw [← hs] at hs100 ⊢
        rw [hv] at hidx
        have HBK := Lib.hid (fun wx => blocks2_any m (by omega) wx)
        have HSU := Lib.hid hsucc
        obtain ⟨d, hd⟩ : ∃ d, d = (m + 2) / 3 := ⟨_, rfl⟩
        rw [← hd] at HBK HSU
        have hd10 : (d : Int) ≤ 100 := by omega
        have hs10 : (s : Int) ≤ 100 := by omega
        clear hv hbl h24 hsl hm hs hsucc hd
        go_wp2_with (go_at_call 115; with_reducible refine (HBK.out _).mono ?_; rintro e w2 ⟨rfl, rfl⟩)
        go_roundg (gk - 1)
        case measure => omega
        case rel => exact ⟨k + 1, by omega, by go_num, by rw [HSU.out]; go_num, rfl⟩
      · have hge : ¬ (k : Int) < 4 := by omega
        obtain rfl : k = 4 := by omega
        go_wp2_with fail
        go_ret
        rw [HND.out]
        exact ⟨rfl, HB1.out⟩
end Go.Proofs.Ytlopdbhjdijlmaa
