/-
  fmt2.blocks and fmt2.Need: contracts. No condition but the inode's being right.
  fmt2.tag and fmt2.file: contracts. No condition but the bounds that are typed.
-/
import Derived.Test.YtlopdbhjdijlmaaQHash
import Derived.Test.YtlopdbhjdijlmaaQRunsM
import Derived.Test.YtlopdbhjdijlmaaQLay1

namespace Go.Proofs.Ytlopdbhjdijlmaa
open Go.ChangeShapes Go.WideShapes Go.ChangeAt Go.RowKit
set_option linter.unusedSimpArgs false
set_option linter.unusedVariables false

theorem blocks2_any (n : Nat) (hn : n ≤ 1000) (w : World) : Calls Try.prog 115 #[.int .i64 n] w fun e w' => e = .returned (.int .i64 ((n + 2) / 3 : Nat)) ∧ w = w' := by
  have h0 : (0 : Int) ≤ (n : Int) := Int.natCast_nonneg _
  have h1 : (n : Int) ≤ 1000 := by omega
  go_enter Try.func115, Try.ntmps115
  go_wp2
  go_ret
  have e : ((n : Int) + 3 - 1) / 3 = (((n + 2) / 3 : Nat) : Int) := by omega
  simp [e]
  try omega

theorem idx4 (vs : Nat → Value) (k : Nat) (hk : k < 4) (w : World) : (Instr.index 149 (.agg #[vs 0, vs 1, vs 2, vs 3]) (.int .i64 k)).run Try.prog w = .ok (vs k) w :=
  run_index_arr Try.underlying149 Try.underlying23 rfl (by kernel_rfl) _ _ k _ hk (by rcases (show k = 0 ∨ k = 1 ∨ k = 2 ∨ k = 3 by omega) with rfl | rfl | rfl | rfl <;> rfl) w

/-- How many blocks the buckets below a bucket take. -/
noncomputable def sumB (l : List En) : Nat → Nat
  | 0 => 0
  | k + 1 => sumB l k + ((bktL l k).length + 2) / 3
noncomputable def need2 (n : Ino) : Nat := if n.kind = 1 then (if 6 < (RunsM.runs n.bl).length then 1 else 0) else sumB n.ents 4

theorem sumB_le (l : List En) : ∀ k, sumB l k ≤ k * ((l.length + 2) / 3)
  | 0 => by simp [sumB]
  | k + 1 => by
    have h1 := sumB_le l k
    have h2 := bktL_len l k
    simp only [sumB]
    rw [Nat.add_mul]
    omega

theorem RightP.isDir {n : Ino} (h : RightP n) (hk : n.kind ≠ 1) : n.kind = 2 ∧ DirOK n := by
  rcases h.2.2.2 with ⟨h1, -⟩ | h1
  · exact absurd h1 hk
  · exact h1

set_option maxRecDepth 20000 in
set_option maxHeartbeats 1000000 in
theorem need2_any {w : World} {n : Ino} {ev : Value} (hn : n.Ok) (he : HoldsE w ev n.ents) (hr : RightP n) :
    Calls Try.prog 93 #[.agg (inoA n ev)] w fun e w' => e = .returned (.int .i64 (need2 n : Nat)) ∧ Below w.heap.size w w' := by
  have hb := InoB.new w hn.len ev
  have HBEL : Hid (Below w.heap.size w (w.alloc (.cells (inoA n ev) 25))) := (Below.refl _ _).alloc (Nat.le_refl _) _
  have HE := Lib.hid (he.below HBEL.out)
  have c1 := hb.at.c1
  simp only [Nat.zero_add] at c1
  have hrk : n.kind = 1 ∨ n.kind ≠ 1 := by omega
  obtain ⟨kd, hkd⟩ : ∃ kd, kd = n.kind := ⟨_, rfl⟩
  rw [← hkd] at c1
  have HKD := Lib.hid hkd
  by_cases hk : kd = 1
  · have hnd : need2 n = if 6 < (RunsM.runs n.bl).length then 1 else 0 := by unfold need2; rw [if_pos (by rw [← hkd]; exact hk)]
    have HND := Lib.hid hnd
    have HRB := Lib.hid (hb.at.blocks hn.len)
    have HSB : Hid ((Try.prog.info? 22).map (·.size) = some (n.bl.map (Value.int .i64)).length) := by
      unfold Hid; rw [List.length_map, hn.len]; exact Try.info13
    have HRU := Lib.hid (fun wx => fmt2_runs n.bl hn.len wx)
    have hlen := (RunsM.fit_upto n.bl 13).len
    obtain ⟨M, hM⟩ : ∃ M, M = (RunsM.runs n.bl).length := ⟨_, rfl⟩
    have hM13 : M ≤ 13 := by rw [hM]; exact hlen
    rw [← hM] at HND HRU
    subst hk
    clear hb hn he hr hkd hnd hlen hM hrk
    have hsome : ∀ (b : Bool), b = decide (6 < M) → need2 n = if b = true then 1 else 0 := fun b hb => by rw [HND.out, hb]; by_cases h : 6 < M <;> simp [h]
    by_cases h6 : 6 < M
    · have h6i : (6 : Int) < (M : Int) := by omega
      have HN1 : Hid (need2 n = 1) := by unfold Hid; rw [HND.out, if_pos h6]
      clear hsome h6
      go_enter Try.func93, Try.ntmps93
      go_wp2_with (first
        | (with_reducible refine wpList_load_mid (op := ⟨some 10, _, _, _, _, _⟩) rfl 22 _ rfl w.heap.size (0 + 4) rfl (n.bl.map (Value.int .i64)) _ HRB.out Try.underlying22 rfl HSB.out ?_)
        | (go_at_call 113; refine (HRU.out _).mono ?_; rintro e w1 ⟨v, rfl, hown, hb1⟩; obtain ⟨va, vc, rfl, s1, s2, -⟩ := own_shape hown))
      go_ret
      rw [HN1.out]
      exact ⟨rfl, HBEL.out.trans (hb1.mono HBEL.out.size)⟩
    · have h6i : ¬ (6 : Int) < (M : Int) := by omega
      have HN1 : Hid (need2 n = 0) := by unfold Hid; rw [HND.out, if_neg h6]
      clear hsome h6
      go_enter Try.func93, Try.ntmps93
      go_wp2_with (first
        | (with_reducible refine wpList_load_mid (op := ⟨some 10, _, _, _, _, _⟩) rfl 22 _ rfl w.heap.size (0 + 4) rfl (n.bl.map (Value.int .i64)) _ HRB.out Try.underlying22 rfl HSB.out ?_)
        | (go_at_call 113; refine (HRU.out _).mono ?_; rintro e w1 ⟨v, rfl, hown, hb1⟩; obtain ⟨va, vc, rfl, s1, s2, -⟩ := own_shape hown))
      go_ret
      rw [HN1.out]
      exact ⟨rfl, HBEL.out.trans (hb1.mono HBEL.out.size)⟩
  · have hnd : need2 n = sumB n.ents 4 := by unfold need2; rw [if_neg (by rw [← hkd]; exact hk)]
    have HND := Lib.hid hnd
    have hdir := (hr.isDir (by rw [← hkd]; exact hk)).2
    have HHA := Lib.hid (fun wx (hm : Mod nob (w.alloc (.cells (inoA n ev) 25)) wx) => hashed_any (HE.out.mod hm (fun _ _ _ h => h)) hdir.2.1 (fun k hk => (hdir.1 k hk).1))
    have c17 := hb.at.ev
    simp only [Nat.zero_add] at c17
    have hkb : ((kd : Int) == 1) = false := beq_false_of_ne hk
    have HL24 := Lib.hid hdir.2.1
    clear hb hn he hr hkd hnd hdir hk hrk
    go_enter Try.func93, Try.ntmps93
    go_wp2_with (go_at_call 114; refine (HHA.out _ (Mod.refl _ _)).mono ?_; rintro e w1 ⟨vs, rfl, hvs, -, hb1⟩)
    have HVS := Lib.hid hvs
    have HB1 : Hid (Below w.heap.size w w1) := HBEL.out.trans (hb1.mono HBEL.out.size)
    have HI4 := Lib.hid (idx4 vs)
    clear hvs hb1 HHA c1 c17 hkb
    go_loopg [3, 17] 4 (fun gk dv iv wr => ∃ k : Nat, k + gk = 4 ∧ iv = .int .i64 k ∧ dv = .int .i64 (sumB n.ents k : Nat) ∧ w1 = wr)
    case atStart => exact ⟨0, by omega, rfl, rfl, rfl⟩
    case round =>
      obtain ⟨k, hk, rfl, rfl, rfl⟩ := hrel
      by_cases hlt : k < 4
      · have hki : (k : Int) < 4 := by omega
        have hidx := HI4.out k hlt
        obtain ⟨va, vc, hv, -⟩ := HVS.out k hlt
        have hbl := bktL_len n.ents k
        have h24 := HL24.out
        have hsl := sumB_le n.ents k
        obtain ⟨m, hm⟩ : ∃ m, m = (bktL n.ents k).length := ⟨_, rfl⟩
        rw [← hm] at hv hbl
        have hs100 : sumB n.ents k ≤ 100 := by
          have : k * ((n.ents.length + 2) / 3) ≤ 4 * ((n.ents.length + 2) / 3) := Nat.mul_le_mul_right _ (by omega)
          omega
        obtain ⟨s, hs⟩ : ∃ s, s = sumB n.ents k := ⟨_, rfl⟩
        have hsucc : sumB n.ents (k + 1) = s + (m + 2) / 3 := by simp only [sumB]; rw [hs, hm]
        rw [← hs] at hs100 ⊢
        rw [hv] at hidx
        have HBK := Lib.hid (fun wx => blocks2_any m (by omega) wx)
        have HSU := Lib.hid hsucc
        obtain ⟨d, hd⟩ : ∃ d, d = (m + 2) / 3 := ⟨_, rfl⟩
        rw [← hd] at HBK HSU
        have hd10 : (d : Int) ≤ 100 := by omega
        have hs10 : (s : Int) ≤ 100 := by omega
        clear hv hbl h24 hsl hm hs hsucc hd
        go_wp2_with (go_at_call 115; with_reducible refine (HBK.out _).mono ?_; rintro e w2 ⟨rfl, rfl⟩)
        go_roundg (gk - 1)
        case measure => omega
        case rel => exact ⟨k + 1, by omega, by go_num, by rw [HSU.out]; go_num, rfl⟩
      · have hge : ¬ (k : Int) < 4 := by omega
        obtain rfl : k = 4 := by omega
        go_wp2_with fail
        go_ret
        rw [HND.out]
        exact ⟨rfl, HB1.out⟩
end Go.Proofs.Ytlopdbhjdijlmaa

namespace Go.Proofs.Ytlopdbhjdijlmaa
open Go.ChangeShapes Go.WideShapes Go.ChangeAt Go.RowKit
set_option linter.unusedSimpArgs false
set_option linter.unusedVariables false

set_option maxRecDepth 20000 in
theorem tag2_any {w : World} {n : Ino} {ev : Value} (hl : n.bl.length = 13) (hn : (0 ≤ n.format ∧ n.format < 256) ∧ (0 ≤ n.kind ∧ n.kind < 256) ∧ (0 ≤ n.links ∧ n.links < 65536)) :
    Calls Try.prog 116 #[.agg (inoA n ev)] w fun e w' => e = .returned (.int .u64 (tagW n)) ∧ Below w.heap.size w w' := by
  have hb := InoB.new w hl ev
  have c0 := hb.at.c0
  have c1 := hb.at.c1
  have c2 := hb.at.c2
  simp only [Nat.zero_add] at c1 c2
  have htg : tagW n = n.format + 256 * n.kind + 65536 * n.links := rfl
  have HTG := Lib.hid htg
  have HBEL : Hid (Below w.heap.size w (w.alloc (.cells (inoA n ev) 25))) := (Below.refl _ _).alloc (Nat.le_refl _) _
  obtain ⟨⟨a0, a1⟩, ⟨b0, b1⟩, d0, d1⟩ := hn
  generalize tagW n = tg at *
  obtain ⟨fo, hfo⟩ : ∃ fo, fo = n.format := ⟨_, rfl⟩
  obtain ⟨ki, hki⟩ : ∃ ki, ki = n.kind := ⟨_, rfl⟩
  obtain ⟨li, hli⟩ : ∃ li, li = n.links := ⟨_, rfl⟩
  rw [← hfo] at c0 a0 a1 HTG
  rw [← hki] at c1 b0 b1 HTG
  rw [← hli] at c2 d0 d1 HTG
  have hbits := tag_bits fo ki li ⟨a0, a1⟩ ⟨b0, b1⟩ ⟨d0, d1⟩
  have HBITS := Lib.hid hbits
  clear htg hb hfo hki hli hbits
  go_enter Try.func116, Try.ntmps116
  go_wp2_with fail
  go_ret
  refine ⟨?_, HBEL.out⟩
  rw [HTG.out, ← HBITS.out]
  rfl

/-- So many words put from a place on. -/
def putN (S : Sh) (base : Int) (f : Nat → Int) : Nat → Sh
  | 0 => S
  | k + 1 => (putN S base f k).put (base + (k : Int)) (f k)
theorem putN_was (S : Sh) (base : Int) (f : Nat → Int) (k : Nat) : (putN S base f k).was.length ≤ S.was.length + k := by
  induction k with
  | zero => exact Nat.le_refl _
  | succ k ih => have := Sh.put_was_le (putN S base f k) (base + (k : Int)) (f k); simp only [putN]; omega

/-- A word of a file's inode. -/
def w6f (R : List Int) (own : List Nat) (k : Nat) : Int := if own ≠ [] ∧ k = 5 then 9223372036854775808 + ((own.getD 0 0 : Nat) : Int) else R.getD k 0
def file2S (S : Sh) (at_ : Int) (R : List Int) (own : List Nat) : Sh :=
  putN (if own = [] then S else putN S (1080 + ((own.getD 0 0 : Nat) : Int) * 8) (fun k => R.getD (5 + k) 0) 8) (at_ + 2) (w6f R own) 6

theorem or63 (x : Int) (h0 : 0 ≤ x) (h1 : x < 256) : bits .or .u64 9223372036854775808 x = 9223372036854775808 + x :=
  u64_join 63 9223372036854775808 x (by omega) (by omega) (by decide) h0 (by omega) (by omega)

/-- Six words in a block of their own. -/
def Row6 (w : World) (B : Nat) (l : List Int) : Prop := w.heap[B]? = some (.cells (l.map (Value.int .u64)).toArray 37 (0, 0)) ∧ l.length = 6
theorem Row6.cell {w : World} {B : Nat} {l : List Int} (h : Row6 w B l) (k : Nat) (hk : k < 6) : w.cell? ⟨B, k, none⟩ = some (.int .u64 (l.getD k 0)) := by
  rw [cell_of_row _ _ _ _ _ _ h.1]
  have hkl : k < l.length := by rw [h.2]; exact hk
  simp [hkl]
theorem Row6.frozen {w : World} {B : Nat} {l : List Int} (h : Row6 w B l) (k : Nat) : w.frozen? ⟨B, k, none⟩ = false := frozen_of_row _ _ _ _ _ h.1
theorem Row6.set {w : World} {B : Nat} {l : List Int} (h : Row6 w B l) (k : Nat) (x : Int) : Row6 (w.setCell ⟨B, k, none⟩ (.int .u64 x)) B (l.set k x) := by
  refine ⟨?_, by rw [List.length_set]; exact h.2⟩
  rw [heap_setCell_same _ _ _ _ _ _ h.1]
  congr 2
  apply Array.toList_inj.1
  simp [List.map_set]
theorem Row6.mod {w w' : World} {B : Nat} {l : List Int} (h : Row6 w B l) {D : Nat → Prop} (hm : Mod D w w') (hd : ¬ D B) : Row6 w' B l := ⟨hm.heap h.1 hd, h.2⟩

theorem getD_in0 {l : List Nat} {a : Nat} (h : a < l.length) : l.getD a 0 ∈ l := by
  rw [List.getD_eq_getElem?_getD, List.getElem?_eq_getElem h]
  exact List.getElem_mem h
theorem nob_mod_below2 {w w' : World} (h : Mod nob w w') : Below w.heap.size w w' := h.below (Nat.le_refl _) (fun b h => h.elim)
theorem HoldsU.mod2 {w w' : World} {v : Value} {xs : List Int} (h : HoldsU w v xs) {D : Nat → Prop} (hm : Mod D w w') (hd : xs ≠ [] → ∀ g, v.ownBlock = some g → ¬ D g) : HoldsU w' v xs := by
  obtain ⟨ao, c, rfl, h1, h2, h3, h4⟩ := h
  refine ⟨ao, c, rfl, h1, h2, h3, fun ad ha j u hu => ?_⟩
  subst ha
  have e : (ad.add j).block = ad.block := by unfold Addr.add; split <;> rfl
  refine hm.cell (h4 ad rfl j u hu) ?_
  rw [e]
  refine hd ?_ _ rfl
  intro h0
  rw [h0] at hu
  simp [u64s] at hu
theorem holdsU_cell2 {w : World} {ao : Option Addr} {m c : Nat} {xs : List Int} (h : HoldsU w (.slice ao m c) xs) : ∀ j, j < xs.length → ∃ g o, ao = some ⟨g, o, none⟩ ∧ w.cell? ⟨g, o + j, none⟩ = some (.int .u64 (xs.getD j 0)) := by
  intro j hj
  obtain ⟨ao', c', e, h0, h1, h2, h3⟩ := h
  simp only [Value.slice.injEq] at e
  obtain ⟨rfl, rfl, rfl⟩ := e
  have hu : (u64s xs)[j]? = some (.int .u64 (xs.getD j 0)) := by
    unfold u64s
    rw [List.getElem?_map, List.getD_eq_getElem?_getD, List.getElem?_eq_getElem hj]
    rfl
  cases ao with
  | none => have := h0 rfl; omega
  | some ad =>
    have h4 := h3 ad rfl j _ hu
    have h5 : (u64s xs)[0]? = some (.int .u64 (xs.getD 0 0)) := by
      unfold u64s
      rw [List.getElem?_map, List.getD_eq_getElem?_getD, List.getElem?_eq_getElem (by omega)]
      rfl
    have h6 := h3 ad rfl 0 _ h5
    obtain ⟨b, o, sp⟩ := ad
    have e0 : (⟨b, o, sp⟩ : Addr).add 0 = ⟨b, o, sp⟩ := by unfold Addr.add; rw [if_pos rfl]
    rw [e0] at h6
    cases sp with
    | some z =>
      unfold World.cell? at h6
      simp only at h6
      split at h6
      · simp at h6
      · cases h6
    | none =>
      refine ⟨b, o, rfl, ?_⟩
      have e1 : (⟨b, o, none⟩ : Addr).add j = ⟨b, o + j, none⟩ := by unfold Addr.add; split <;> simp_all
      rw [e1] at h4
      exact h4

theorem pad6_get (R : List Int) (k : Nat) (hk : k < 6) : (pad 6 R).getD k 0 = R.getD k 0 := by
  rw [List.getD_eq_getElem?_getD, pad_get 6 R k hk]
  rfl

set_option maxRecDepth 20000 in
set_option maxHeartbeats 2000000 in
theorem file2_any {w : World} {p : Nat} {D : Nat → Prop} {S : Sh} (h : SheetAt w p D S) (hlen : S.was.length + 100 < 1099511627776) (at_ : Int) (ha : 0 ≤ at_ ∧ at_ ≤ 3000) {lv bv : Value} {R : List Int} {own : List Nat}
    (hl : HoldsU w lv R) (hR : R.length ≤ 13) (hRw : ∀ z ∈ R, 0 ≤ z ∧ z < 18446744073709551616) (hld : R ≠ [] → ∀ g, lv.ownBlock = some g → ¬ D g) (hv : HoldsN w bv own) (hvd : own ≠ [] → ∀ g, bv.ownBlock = some g → ¬ D g) (hob : ∀ b ∈ own, b < 256) (ho1 : own.length ≤ 100) :
    Calls Try.prog 117 #[.pointer (some ⟨p, 0, none⟩), .int .i64 at_, lv, bv] w fun e w' => e = .returned (.tuple #[]) ∧ ShStep w p D w' (file2S S at_ R own) := by
  obtain ⟨i0, hi0, hz0, hz1, hz2⟩ := info_parts Try.infoU64
  have HSH := Lib.hid h
  have HLV := Lib.hid hl
  have HV := Lib.hid hv
  have HRW : Hid (∀ k, 0 ≤ R.getD k 0 ∧ R.getD k 0 < 18446744073709551616) := fun k => by
    by_cases hk : k < R.length
    · rw [List.getD_eq_getElem?_getD, List.getElem?_eq_getElem hk]; exact hRw _ (List.getElem_mem hk)
    · rw [List.getD_eq_getElem?_getD, List.getElem?_eq_none (by omega)]; exact ⟨by decide, by decide⟩
  have HLD := Lib.hid hld
  have HVD := Lib.hid hvd
  have HOB := Lib.hid hob
  have HLEN := Lib.hid hlen
  obtain ⟨ao, c, rfl, hao, hlc, hcm, -⟩ := hl
  obtain ⟨ba, bc, rfl, b1, b2, -, -⟩ := hv
  have HAO := Lib.hid hao
  unfold maxLen at hcm b2
  obtain ⟨a0, a1⟩ := ha
  clear h hRw hld hvd hob hlen hao
  go_enter Try.func117, Try.ntmps117
  go_wp2_with (at_make; refine wpList_make_full _ rfl _ _ 75 rfl w.heap.size 37 i0 (.int .u64 0) 1 Try.underlying75 hi0 hz0 hz1 .i64 .i64 6 6 6 rfl rfl rfl rfl (by rw [hz2]; omega) (by unfold maxLen; omega) (Nat.le_refl _) ?_)
  intro w1 hown1 hgr1
  have hb1 : Below w.heap.size w w1 := (Below.refl _ _).grown hgr1 (Nat.le_refl _) (by intro k hk; cases hk)
  have hh := made_block hown1
  have hv1 := HLV.out.below hb1
  have HH := Lib.hid hh
  have HV1 := Lib.hid hv1
  have HB1 := Lib.hid hb1
  clear hown1 hgr1 hh hv1 hb1
  go_upto_region 2 with (with_reducible refine wpList_copy_splice (o := ⟨some 16, _, _, _, _, _⟩) rfl _ _ 75 75 rfl 37 Try.underlying75 (by kernel_rfl) _ _ _ _ _ _ rfl rfl w.heap.size 0 (zeroRow 6) 37 HH.out ((u64s R).take 6) ?_ ?_ ?_ ?_ w.heap.size w HB1.out (Nat.le_refl _) ?_)
  · rw [take_len]; rw [Nat.min_comm]
  · intro hpos
    obtain ⟨ao', c', e, _, _, _, hc⟩ := HV1.out
    simp only [Value.slice.injEq] at e
    obtain ⟨rfl, _, rfl⟩ := e
    have hx : 0 < R.length := by
      rw [Nat.lt_min] at hpos
      simpa [u64s] using hpos.2
    cases ao with
    | none => have := HAO.out rfl; omega
    | some ad =>
      refine ⟨ad, rfl, fun j v hj => hc ad rfl j v ?_⟩
      rw [List.getElem?_take] at hj
      split at hj
      · exact hj
      · cases hj
  · rw [take_len, zeroRow_length]; omega
  · intro u hu
    exact ints_oneCell _ _ u (List.mem_of_mem_take hu)
  · intro w2 hh2 hb2
    have hr6 : Row6 w2 w.heap.size (pad 6 R) := by
      refine ⟨?_, pad_length 6 R⟩
      have := hh2.out
      rw [show splice (zeroRow 6) 0 ((u64s R).take 6) = newRow 6 R from rfl, newRow_eq] at this
      exact this
    have HR6 := Lib.hid hr6
    have HM2 : Hid (Mod nob w w2) := mod_of_below hb2
    obtain ⟨B, hB⟩ : ∃ B, B = w.heap.size := ⟨_, rfl⟩
    have HBB := Lib.hid hB
    have HDB : Hid (¬ D B) := fun hd => by have := HSH.out.lt B hd; omega
    rw [← hB] at HR6 ⊢
    clear hr6 hh2 hb2 hB HV1 HH HB1
    obtain ⟨M, hM⟩ : ∃ M, M = own.length := ⟨_, rfl⟩
    rw [← hM] at b1 HV ho1 ⊢
    have HMM := Lib.hid hM
    clear hM
    obtain ⟨S1, hS1⟩ : ∃ S1, S1 = if own = [] then S else putN S (1080 + ((own.getD 0 0 : Nat) : Int) * 8) (fun k => R.getD (5 + k) 0) 8 := ⟨_, rfl⟩
    have HS1 := Lib.hid hS1
    have hwas1 : S1.was.length ≤ S.was.length + 8 := by
      rw [hS1]
      split
      · omega
      · exact putN_was _ _ _ _
    have HWAS1 := Lib.hid hwas1
    clear hS1 hwas1
    go_upto_if 19 with (fail)
    go_cut [9, 10, 19, 20, 21, 22, 23, 24, 25, 26, 27, 28, 29, 30, 31, 32, 33, 34, 35, 36, 37, 38, 39, 40, 41, 42, 43, 44, 45, 46, 47, 48, 49] (fun _ _ _ _ _ _ _ _ _ _ _ _ _ _ _ _ _ _ _ _ _ _ _ _ _ _ _ _ _ _ _ _ _ wc => ∃ (wb : World) (l6 : List Int), Hid (Mod nob w wb) ∧ Hid (B < wb.heap.size) ∧ Hid (ShStep wb p D wc S1) ∧ Hid (Row6 wc B l6) ∧ Hid (∀ k, k < 6 → l6.getD k 0 = w6f R own k))
    case first =>
      by_cases h0 : own = []
      · have hM0 : M = 0 := by rw [HMM.out, h0]; rfl
        have hs1 : S1 = S := by rw [HS1.out, if_pos h0]
        have HEND : Hid (ShStep w2 p D w2 S1) := by unfold Hid; rw [hs1]; exact ShStep.at w HSH.out HM2.out
        have HL6 : Hid (∀ k, k < 6 → (pad 6 R).getD k 0 = w6f R own k) := fun k hk => by rw [pad6_get R k hk]; unfold w6f; rw [if_neg (fun h => h.1 h0)]
        have HLT : Hid (B < w2.heap.size) := lt_of_block HR6.out.1
        subst hM0
        clear h0 hs1
        go_wp2_with fail
        go_meet
        case rel => exact ⟨_, _, HM2.out, HLT.out, HEND.out, HR6.out, HL6.out⟩
      · have hMp : 0 < M := by rw [HMM.out]; exact List.length_pos_iff.2 h0
        have hMi : (0 : Int) < (M : Int) := by omega
        try rw [decide_eq_true hMp]
        have hs1 : S1 = putN S (1080 + ((own.getD 0 0 : Nat) : Int) * 8) (fun k => R.getD (5 + k) 0) 8 := by rw [HS1.out, if_neg h0]
        obtain ⟨ao', c', e, -, -, -, hcell⟩ := HV.out.mod HM2.out (fun _ _ _ h => h)
        have hlen := HMM.out
        rw [← hlen] at e
        simp only [Value.slice.injEq] at e
        obtain ⟨rfl, -, rfl⟩ := e
        obtain ⟨g, o, rfl, d1⟩ := hcell 0 (by omega)
        have hx256 := HOB.out _ (getD_in0 (l := own) (a := 0) (by omega))
        have HNE := Lib.hid h0
        obtain ⟨x, hx⟩ : ∃ x, x = own.getD 0 0 := ⟨_, rfl⟩
        rw [← hx] at d1 hx256 hs1
        have HXX := Lib.hid hx
        have HSS1 := Lib.hid hs1
        have hxi : (x : Int) < 256 := by omega
        have hor := or63 (x : Int) (by omega) (by omega)
        have d5 := HR6.out.cell 5 (by omega)
        have f5 := HR6.out.frozen 5
        rw [Nat.add_zero] at d1
        have hgB : g < w2.heap.size := World.block_lt_of_cell? _ _ d1
        clear h0 hcell hlen hx hs1 hgB
        generalize (pad 6 R).getD 5 0 = y5 at d5
        have hnb : ¬ g = B := fun e => by
          have h1 := HV.out.lt HNE.out g rfl
          have h2 := HBB.out
          omega
        go_upto_region 4 with (fail)
        have HR7 := Lib.hid (HR6.out.set 5 (9223372036854775808 + (x : Int)))
        have HM3 : Hid (Mod nob w (w2.setCell ⟨B, 5, none⟩ (.int .u64 (9223372036854775808 + (x : Int))))) := HM2.out.setCell (a := ⟨B, 5, none⟩) (.inr (by have := HBB.out; show w.heap.size ≤ B; omega)) _
        generalize w2.setCell ⟨B, 5, none⟩ (.int .u64 (9223372036854775808 + (x : Int))) = w3 at *
        have HLT : Hid (B < w3.heap.size) := lt_of_block HR7.out.1
        have HST0 : Hid (ShStep w3 p D w3 S) := ShStep.at w HSH.out HM3.out
        have HL6 : Hid (∀ k, k < 6 → ((pad 6 R).set 5 (9223372036854775808 + (x : Int))).getD k 0 = w6f R own k) := fun k hk => by
          have hpl := pad_length 6 R
          unfold w6f
          by_cases e : k = 5
          · subst e
            rw [if_pos ⟨HNE.out, rfl⟩, ← HXX.out, List.getD_eq_getElem?_getD, List.getElem?_set_self (by omega)]
            rfl
          · rw [if_neg (fun h => e h.2), ← pad6_get R k hk, List.getD_eq_getElem?_getD, List.getElem?_set_ne (by omega), List.getD_eq_getElem?_getD]
        have HBL : Hid (∀ wx, Calls Try.prog 105 #[.int .i64 (x : Int)] wx fun e w' => e = .returned (.int .i64 (1080 + (x : Int) * 8)) ∧ wx = w') := by
          intro wx
          have := block_any (x : Int) wx
          rw [if_neg (by omega)] at this
          exact this
        clear d1 d5 f5 hor hx256
        go_wp2_with fail
        go_loopg [9, 10, 27] 8 (fun gk _ _ iv wr => ∃ k : Nat, k + gk = 8 ∧ iv = .int .i64 k ∧ Hid (ShStep w3 p D wr (putN S (1080 + (x : Int) * 8) (fun k => R.getD (5 + k) 0) k)) ∧ Hid (Row6 wr B ((pad 6 R).set 5 (9223372036854775808 + (x : Int)))))
        case atStart => exact ⟨0, by omega, rfl, HST0.out, HR7.out⟩
        case round =>
          obtain ⟨k, hk, rfl, HST, HRR⟩ := hrel
          by_cases hlt : k < 8
          · have hki : (k : Int) < 8 := by omega
            have hk0 : (0 : Int) ≤ (k : Int) := Int.natCast_nonneg _
            have hyw := HRW.out (5 + k)
            have HWK : Hid ((putN S (1080 + (x : Int) * 8) (fun k => R.getD (5 + k) 0) k).was.length < 1099511627776) := by
              unfold Hid
              have := putN_was S (1080 + (x : Int) * 8) (fun k => R.getD (5 + k) 0) k
              have := HLEN.out
              omega
            have hnBr : ¬ grow D w3 wr B := fun hd => by
              rcases hd with hd | hd
              · exact HDB.out hd
              · have := HLT.out; omega
            have HNBR := Lib.hid hnBr
            have hvo := (HV.out.mod HM3.out (fun _ _ _ h => h)).mod HST.out.2 HVD.out
            obtain ⟨ao', c', e, -, -, -, hcell⟩ := hvo
            have hlen := HMM.out
            rw [← hlen] at e
            simp only [Value.slice.injEq, Option.some.injEq] at e
            obtain ⟨rfl, -, rfl⟩ := e
            obtain ⟨g', o', e', d1⟩ := hcell 0 (by omega)
            simp only [Option.some.injEq, Addr.mk.injEq, and_true] at e'
            obtain ⟨rfl, rfl⟩ := e'
            rw [← HXX.out, Nat.add_zero] at d1
            have hsu : putN S (1080 + (x : Int) * 8) (fun k => R.getD (5 + k) 0) (k + 1) = (putN S (1080 + (x : Int) * 8) (fun k => R.getD (5 + k) 0) k).put (1080 + (x : Int) * 8 + (k : Int)) (R.getD (5 + k) 0) := rfl
            have HSU := Lib.hid hsu
            clear hsu hcell hlen hnBr
            by_cases h5 : 5 + k < R.length
            · have h5i : 5 + (k : Int) < (R.length : Int) := by omega
              obtain ⟨gl, ol, rfl, d2⟩ := holdsU_cell2 ((HLV.out.below (nob_mod_below2 HM3.out)).mod2 HST.out.2 HLD.out) (5 + k) h5
              have d2' : wr.cell? ⟨gl, ol + (5 + k), none⟩ = some (.int .u64 (R.getD (5 + k) 0)) := d2
              generalize R.getD (5 + k) 0 = y at *
              obtain ⟨y0, y1⟩ := hyw
              clear h5 d2
              go_wp2_with fail
              refine (HBL.out _).mono ?_
              rintro e w4 ⟨rfl, rfl⟩
              go_wp2_with fail
              refine (sheet_put HST.out.1 HWK.out _ y y0 y1).mono ?_
              rintro e w5 ⟨rfl, h5', m5⟩
              have HS5 := Lib.hid (HST.out.step h5' m5)
              have HR5 := Lib.hid (HRR.out.mod m5 HNBR.out)
              clear h5' m5
              go_wp2_with fail
              go_roundg (gk - 1)
              case measure => omega
              case rel => exact ⟨k + 1, by omega, by go_num, by unfold Hid; rw [HSU.out]; exact HS5.out, HR5⟩
            · have h5i : ¬ 5 + (k : Int) < (R.length : Int) := by omega
              have hy0 : R.getD (5 + k) 0 = 0 := by rw [List.getD_eq_getElem?_getD, List.getElem?_eq_none (by omega)]; rfl
              rw [hy0] at HSU
              clear h5 hyw hy0
              go_wp2_with fail
              refine (HBL.out _).mono ?_
              rintro e w4 ⟨rfl, rfl⟩
              go_wp2_with fail
              refine (sheet_put HST.out.1 HWK.out _ 0 (by omega) (by omega)).mono ?_
              rintro e w5 ⟨rfl, h5', m5⟩
              have HS5 := Lib.hid (HST.out.step h5' m5)
              have HR5 := Lib.hid (HRR.out.mod m5 HNBR.out)
              clear h5' m5
              go_wp2_with fail
              go_roundg (gk - 1)
              case measure => omega
              case rel => exact ⟨k + 1, by omega, by go_num, by unfold Hid; rw [HSU.out]; exact HS5.out, HR5⟩
          · have hge : ¬ (k : Int) < 8 := by omega
            obtain rfl : k = 8 := by omega
            have HEND : Hid (ShStep w3 p D wr S1) := by unfold Hid; rw [HSS1.out]; exact HST.out
            go_wp2_with fail
            go_meet
            case rel => exact ⟨_, _, HM3.out, HLT.out, HEND.out, HRR.out, HL6.out⟩
    case rest =>
      obtain ⟨wb, l6, HMB, HLB, HST1, HRW6, HL6⟩ := hcut
      obtain ⟨wq, rfl⟩ : ∃ wq : World, wq = wc := ⟨_, rfl⟩
      have hfs : file2S S at_ R own = putN S1 (at_ + 2) (w6f R own) 6 := by unfold file2S; rw [← HS1.out]
      have HFS := Lib.hid hfs
      have hwb : ∀ k, 0 ≤ w6f R own k ∧ w6f R own k < 18446744073709551616 := fun k => by
        unfold w6f
        split
        · rename_i h
          have := HOB.out _ (getD_in0 (l := own) (a := 0) (List.length_pos_iff.2 h.1))
          omega
        · exact HRW.out k
      have HWB := Lib.hid hwb
      clear hfs hwb HR6 HM2 HAO HLD HLV HVD HV
      go_wp2_with fail
      go_loopg [11, 12, 52] 6 (fun gk _ _ iv wr => ∃ k : Nat, k + gk = 6 ∧ iv = .int .i64 k ∧ Hid (ShStep wb p D wr (putN S1 (at_ + 2) (w6f R own) k)) ∧ Hid (Row6 wr B l6))
      case atStart => exact ⟨0, by omega, rfl, HST1.out, HRW6.out⟩
      case round =>
        obtain ⟨k, hk, rfl, HST, HRR⟩ := hrel
        by_cases hlt : k < 6
        · have hki : (k : Int) < 6 := by omega
          have hk0 : (0 : Int) ≤ (k : Int) := Int.natCast_nonneg _
          have d1 := HRR.out.cell k hlt
          rw [HL6.out k hlt] at d1
          have hyw := HWB.out k
          have HWK : Hid ((putN S1 (at_ + 2) (w6f R own) k).was.length < 1099511627776) := by
            unfold Hid
            have := putN_was S1 (at_ + 2) (w6f R own) k
            have := HWAS1.out
            have := HLEN.out
            omega
          have hnBr : ¬ grow D wb wr B := fun hd => by
            rcases hd with hd | hd
            · exact HDB.out hd
            · have := HLB.out; omega
          have HNBR := Lib.hid hnBr
          have hsu : putN S1 (at_ + 2) (w6f R own) (k + 1) = (putN S1 (at_ + 2) (w6f R own) k).put (at_ + 2 + (k : Int)) (w6f R own k) := rfl
          have HSU := Lib.hid hsu
          clear hsu hnBr
          generalize w6f R own k = y at *
          obtain ⟨y0, y1⟩ := hyw
          go_wp2_with fail
          refine (sheet_put HST.out.1 HWK.out _ y y0 y1).mono ?_
          rintro e w5 ⟨rfl, h5', m5⟩
          have HS5 := Lib.hid (HST.out.step h5' m5)
          have HR5 := Lib.hid (HRR.out.mod m5 HNBR.out)
          clear h5' m5
          go_wp2_with fail
          go_roundg (gk - 1)
          case measure => omega
          case rel => exact ⟨k + 1, by omega, by go_num, by unfold Hid; rw [HSU.out]; exact HS5.out, HR5⟩
        · have hge : ¬ (k : Int) < 6 := by omega
          obtain rfl : k = 6 := by omega
          go_wp2_with fail
          go_end0
          refine ⟨rfl, ?_⟩
          rw [HFS.out]
          exact ShStep.from HSH.out HMB.out HST.out
end Go.Proofs.Ytlopdbhjdijlmaa
