/-
  The law PlogStands: the walk. No condition.
-/
import Derived.Test.YtcbcemeagiociaaPlogRef3
import Derived.Test.YtcbcemeagiociaaPlogTwiceWalk
namespace Go.Proofs.Ytcbcemeagiociaa
open Go.ChangeShapes Go.WideShapes Go.ChangeAt Go.RowKit Go.Maps
set_option linter.unusedSimpArgs false
set_option linter.unusedVariables false

def U64s (xs : List Int) : Prop := ∀ z ∈ xs, 0 ≤ z ∧ z < 18446744073709551616

/-- Some words of the call's own, 3128 of them. -/
def WordsAt (w : World) (B g : Nat) : Prop := ∃ xs : List Int, xs.length = 3128 ∧ U64s xs ∧ w.ownsRow B 26 1 (.slice (some ⟨g, 0, none⟩) 3128 3128) 3128 (u64s xs)

theorem WordsAt.mod {w w' : World} {B g : Nat} (h : WordsAt w B g) {D : Nat → Prop} (hm : Mod D w w') (hd : ¬ D g) : WordsAt w' B g := by
  obtain ⟨xs, h1, h2, h3⟩ := h
  exact ⟨xs, h1, h2, hm.own h3 (fun q hq => by cases hq; exact hd)⟩

theorem WordsAt.set {w : World} {B g : Nat} (h : WordsAt w B g) (i : Nat) (hi : i < 3128) (x : Int) (h0 : 0 ≤ x) (h1 : x < 18446744073709551616) : WordsAt (w.setCell ⟨g, i, none⟩ (.int .u64 x)) B g := by
  obtain ⟨xs, e1, e2, e3⟩ := h
  refine ⟨xs.set i x, by rw [List.length_set, e1], fun z hz => ?_, by rw [← u64s_set]; exact own_set e3 hi⟩
  rcases List.mem_or_eq_of_mem_set hz with hz | hz
  · exact e2 z hz
  · subst hz; exact ⟨h0, h1⟩

theorem WordsAt.cell {w : World} {B g : Nat} (h : WordsAt w B g) (i : Nat) (hi : i < 3128) : (∃ y, w.cell? ⟨g, i, none⟩ = some (.int .u64 y) ∧ 0 ≤ y ∧ y < 18446744073709551616) ∧ w.frozen? ⟨g, i, none⟩ = false ∧ B ≤ g ∧ g < w.heap.size := by
  obtain ⟨xs, e1, e2, e3⟩ := h
  have hl : i < (u64s xs).length := by rw [u64s_len]; omega
  have hc := e3.cells rfl i _ (List.getElem?_eq_getElem hl)
  rw [Addr.add_lit, Nat.zero_add] at hc
  have hx : (u64s xs)[i] = .int .u64 (xs[i]'(by omega)) := by simp [u64s]
  rw [hx] at hc
  refine ⟨⟨_, hc, e2 _ (List.getElem_mem _)⟩, ?_, own_ge e3 g rfl, own_lt e3 g rfl⟩
  rcases e3.2 with ⟨hv, _⟩ | ⟨g', cap', cur, hv, h1, h2, _⟩
  · cases hv
  · cases hv; exact frozen_of_row _ _ _ _ _ h2

theorem HoldsU.mod {w w' : World} {v : Value} {xs : List Int} (h : HoldsU w v xs) {D : Nat → Prop} (hm : Mod D w w') (hd : ∀ g, v.ownBlock = some g → ¬ D g) : HoldsU w' v xs := by
  obtain ⟨ao, c, rfl, h1, h2, h3, h4⟩ := h
  refine ⟨ao, c, rfl, h1, h2, h3, fun ad ha j u hj => hm.cell (h4 ad ha j u hj) ?_⟩
  subst ha
  have e : (ad.add j).block = ad.block := by unfold Addr.add; split <;> rfl
  rw [e]
  exact hd _ rfl

theorem xor_range {x y : Int} (h0 : 0 ≤ x) (h1 : x < 18446744073709551616) (h2 : 0 ≤ y) (h3 : y < 18446744073709551616) : 0 ≤ bits .xor .u64 x y ∧ bits .xor .u64 x y < 18446744073709551616 := by
  obtain ⟨a, rfl⟩ := Int.eq_ofNat_of_zero_le h0
  obtain ⟨b, rfl⟩ := Int.eq_ofNat_of_zero_le h2
  rw [u64_xor_nat a b (by omega) (by omega)]
  have : a ^^^ b < 2 ^ 64 := Nat.xor_lt_two_pow (by omega) (by omega)
  omega

theorem wrap_range (y : Int) : 0 ≤ IntKind.u64.wrap y ∧ IntKind.u64.wrap y < 18446744073709551616 := by
  rw [IntKind.wrap_u64]
  omega

theorem standing_new (xs : List Int) (hx : xs.length = 3128) : (Pm.new xs).standing.2.2 = 0 ∧ ((Pm.new xs).standing.2.1 = true → goodP (Pm.new xs).standing.1 = true ∧ ∃ k, (Pm.new xs).standing.1 = standTo (Pm.new xs) k) ∧ ((Pm.new xs).standing.2.1 = false → (Pm.new xs).standing.1 = []) := by
  have hn : (Pm.new xs).n = 3128 := by show min xs.length 10000 = 3128; omega
  have hg : (Pm.new xs).gone = false := rfl
  unfold Pm.standing
  rw [if_neg (by simp [hn]), if_neg (by simp [hg])]
  split
  · exact ⟨rfl, fun h => (by cases h), fun _ => rfl⟩
  · split
    · rename_i hok
      unfold standOk at hok
      simp only [Bool.and_eq_true] at hok
      exact ⟨rfl, fun _ => ⟨hok.1, _, rfl⟩, fun h => (by cases h)⟩
    · exact ⟨rfl, fun h => (by cases h), fun _ => rfl⟩

/-- Behind a replay. -/
theorem replay_plain (xs : List Int) (hx : xs.length = 3128) (hu : U64s xs) :
    ∃ T, (Pm.new xs).replay = (T, 0) ∧ T.n = 3128 ∧ T.gone = false ∧ SameAs T (afterL xs (Pm.new xs).standing.1) ∧ (∀ x ∈ (Pm.new xs).standing.1, 0 ≤ x.1 ∧ x.1 < 3128) ∧ (Pm.new xs).standing.1.length ≤ 400 := by
  obtain ⟨h1, h2, h3⟩ := standing_new xs hx
  have hlen := standing_len (Pm.new xs)
  have hn : (Pm.new xs).n = 3128 := by show min xs.length 10000 = 3128; omega
  have hok : (Pm.new xs).Ok := Pm.Ok.new hu
  have hcalm : Calm (Pm.new xs) := ⟨⟨rfl, rfl⟩, fun _ => rfl, fun _ => rfl⟩
  have hnow : ∀ i, (Pm.new xs).now i = xs.getD i 0 := fun _ => rfl
  have hrep : (Pm.new xs).replay = if (Pm.new xs).standing.2.2 ≠ 0 then (Pm.new xs, (Pm.new xs).standing.2.2) else if (Pm.new xs).standing.2.1 then (Pm.new xs).doneP (Pm.new xs).standing.1 else if (Pm.new xs).may 8 ≠ 0 ∨ (Pm.new xs).load 8 = 0 then (Pm.new xs, (Pm.new xs).may 8) else (Pm.new xs).mark 0 := rfl
  rw [if_neg (by rw [h1]; simp)] at hrep
  have hm8 : (Pm.new xs).may 8 = 0 := live_may hcalm.1 (by omega) (by rw [hn]; simp)
  have hl8 : (Pm.new xs).load 8 = (Pm.new xs).now 8 := if_pos hm8
  cases hb : (Pm.new xs).standing.2.1 with
  | true =>
    obtain ⟨hg, k, hk⟩ := h2 hb
    rw [hb, if_pos rfl] at hrep
    have hin := (good_in hg).1
    obtain ⟨T, e1, a1, a2, a3, a4, a5⟩ := done_calm hok hcalm hn (l := (Pm.new xs).standing.1) (fun x hx => by rw [hn]; have := hin x hx; omega) (by
      intro x hx
      rw [hk] at hx
      obtain ⟨i, hi, rfl⟩ := standTo_mem hx
      exact hok.now _)
    refine ⟨T, by rw [hrep, e1], a3.trans hn, a2.1.1, ⟨by rw [a4]; unfold upd; rw [if_pos rfl], fun i hi hk2 => ?_⟩, fun x hx => ⟨(hin x hx).1, (hin x hx).2.1⟩, hlen⟩
    rw [a4]
    unfold upd
    rw [if_neg (by omega)]
    exact afterL_getD _ xs _ (fun j hj => (hnow j).symm) i (by omega)
  | false =>
    have hnil := h3 hb
    rw [hb, if_neg (by simp)] at hrep
    rw [hnil]
    by_cases h0 : (Pm.new xs).now 8 = 0
    · rw [if_pos (.inr (by rw [hl8]; exact h0)), hm8] at hrep
      exact ⟨_, hrep, hn, rfl, ⟨h0, fun i hi _ => (hnow i).symm⟩, (fun x hx => by cases hx), by simp⟩
    · rw [if_neg (by rw [hm8, hl8]; simp [h0])] at hrep
      obtain ⟨T, e1, a1, a2, a3, a4, a5⟩ := mark_calm hok hcalm hn (c := 0) (by omega) (by omega)
      refine ⟨T, by rw [hrep, e1], a3.trans hn, a2.1.1, ⟨by rw [a4]; unfold upd; rw [if_pos rfl], fun i hi hk2 => ?_⟩, (fun x hx => by cases hx), by simp⟩
      rw [a4]
      unfold upd
      rw [if_neg (by omega)]
      exact (hnow i).symm

set_option maxRecDepth 20000 in
set_option maxHeartbeats 4000000 in
theorem law_stands0 {w : World} {av bv : Value} {a b : List (Int × Int)} (ha : HoldsL w av a) (hb : HoldsL w bv b) (hwa : Word64 a) (hwb : Word64 b) (mk : Nat) (hmk : mk < 256) :
    Calls Try.prog 14 #[av, bv, .int .u8 (mk : Int)] w fun e w' => e = .returned (.bool true) ∧ Below w.heap.size w w' := by
  obtain ⟨i0, hi0, hz0, hz1, hz2⟩ := info_parts Try.infoU64
  have HA := Lib.hid ha
  have HB := Lib.hid hb
  have HWA := Lib.hid hwa
  have HWB := Lib.hid hwb
  obtain ⟨ao, c, rfl, hlc, hcm, -⟩ := ha
  obtain ⟨bo, d, rfl, hld, hdm, -⟩ := hb
  obtain ⟨n, hn⟩ : ∃ n, n = a.length := ⟨_, rfl⟩
  obtain ⟨m, hm⟩ : ∃ m, m = b.length := ⟨_, rfl⟩
  rw [← hn] at HA hlc ⊢
  rw [← hm] at HB hld ⊢
  unfold maxLen at hcm hdm
  by_cases h1 : 1 ≤ n ∧ n ≤ 60 ∧ m ≤ 20
  · obtain ⟨h0, h1, h2⟩ := h1
    have HN := Lib.hid hn
    have HM := Lib.hid hm
    have hpa : goodP (placesL a) = true := placesL_good a (by omega)
    have HGA := Lib.hid (good_in hpa).1
    have hqa : Pos (placesL a) := fun x hx => by have := (good_in hpa).1 x hx; have := placesL_words a (fun x hx => (hwa x hx).2) x hx; omega
    have HQA := Lib.hid hqa
    have hn0 : ((n : Int) == 0) = false := by simp; omega
    clear hn hm hwa hwb hpa hqa
    go_enter Try.func14, Try.ntmps14
    go_wp2_with fail
    refine (awake3 _).mono ?_
    rintro e w1 ⟨rfl, hb1⟩
    have HB1 := Lib.hid hb1
    have HA1 := Lib.hid (HA.out.below hb1)
    have HBB1 := Lib.hid (HB.out.below hb1)
    clear hb1
    go_wp2_with fail
    refine (law3_places HA1.out HWA.out (by rw [← HN.out]; omega)).mono ?_
    rintro e w2 ⟨v2, rfl, ho2, hb2⟩
    rw [← HN.out] at ho2
    have HB2 : Hid (Below w.heap.size w w2) := HB1.out.trans (hb2.mono HB1.out.size)
    have HO2 := Lib.hid (HoldsL.of_own (by rw [placesL_len, ← HN.out]) ho2)
    have HLT2 := Lib.hid (own_lt ho2)
    have HBB2 := Lib.hid (HBB1.out.below hb2)
    obtain ⟨ao2, cap2, rfl, hcap2, hcap2m, -⟩ := own_shape ho2
    clear ho2 hb2
    go_wp2_with (at_make; refine wpList_make_full _ rfl _ _ 24 rfl w2.heap.size 26 i0 (.int .u64 0) 1 Try.underlying24 hi0 hz0 hz1 .i64 .i64 3128 3128 3128 rfl rfl rfl rfl (by rw [hz2]; omega) (by unfold maxLen; omega) (Nat.le_refl _) ?_)
    intro w3 hown3 hgr3
    have hb3 : Below w2.heap.size w2 w3 := (Below.refl _ _).grown hgr3 (Nat.le_refl _) (by intro k hk; cases hk)
    have hz3 := made_holds hown3
    have hw3 : WordsAt w3 w2.heap.size w2.heap.size := by
      refine ⟨List.replicate 3128 0, List.length_replicate, zeros_wf _, ?_⟩
      have e := made_block hown3
      have hb := own_block (base := w2.heap.size) (n := 3128) (size := 1) e (Nat.le_refl _) (by unfold maxLen; omega) (by simp [zeroRow])
      have ee : u64s (List.replicate 3128 0) = zeroRow 3128 := by unfold u64s zeroRow; rw [List.map_replicate]
      rw [ee]
      simpa using hb
    have HW3 := Lib.hid hw3
    have HB3 : Hid (Below w.heap.size w w3) := HB2.out.trans (hb3.mono HB2.out.size)
    have HA3 := Lib.hid (HO2.out.below hb3)
    have HBB3 := Lib.hid (HBB2.out.below hb3)
    have hgg := hw3.cell 8 (by omega)
    have hg8 := hgg.2.2.2
    have HLG : Hid (w.heap.size ≤ w2.heap.size) := HB2.out.size
    clear hown3 hgr3 hz3 hw3 hgg
    have HNE : Hid (∀ g, (Value.slice ao2 n cap2).ownBlock = some g → ¬ g = w2.heap.size) := fun g hg e => by have := HLT2.out g hg; omega
    have HCA : Hid (∀ wr, Below w2.heap.size w2 wr → ∀ j, j < n → ∃ g o, ao2 = some ⟨g, o, none⟩ ∧ wr.cell? ⟨g, o + j * 2, none⟩ = some (.int .i64 ((placesL a).getD j (0, 0)).1) ∧ wr.cell? ⟨g, o + j * 2 + 1, none⟩ = some (.int .u64 ((placesL a).getD j (0, 0)).2) ∧ ¬ g = w2.heap.size) := by
      intro wr hm j hj
      obtain ⟨ao', c', e, -, -, h3⟩ := HO2.out.below hm
      rw [placesL_len] at e h3
      rw [← HN.out] at e h3
      simp only [Value.slice.injEq] at e
      obtain ⟨rfl, -, rfl⟩ := e
      obtain ⟨g, o, e1, e2, e3⟩ := h3 j hj
      exact ⟨g, o, e1, e2, e3, HNE.out g (by rw [e1]; rfl)⟩
    have HCB : Hid (∀ wr, Below w.heap.size w wr → ∀ j, j < m → ∃ g o, bo = some ⟨g, o, none⟩ ∧ wr.cell? ⟨g, o + j * 2, none⟩ = some (.int .i64 (b.getD j (0, 0)).1) ∧ wr.cell? ⟨g, o + j * 2 + 1, none⟩ = some (.int .u64 (b.getD j (0, 0)).2) ∧ g < w.heap.size) := by
      intro wr hm j hj
      have key : ∀ W, Below w.heap.size w W → ∃ g o, bo = some ⟨g, o, none⟩ ∧ W.cell? ⟨g, o + j * 2, none⟩ = some (.int .i64 (b.getD j (0, 0)).1) ∧ W.cell? ⟨g, o + j * 2 + 1, none⟩ = some (.int .u64 (b.getD j (0, 0)).2) := by
        intro W hW
        obtain ⟨ao', c', e, -, -, h3⟩ := HB.out.below hW
        rw [← HM.out] at e h3
        simp only [Value.slice.injEq] at e
        obtain ⟨rfl, -, rfl⟩ := e
        exact h3 j hj
      obtain ⟨g, o, e1, e2, -⟩ := key w (Below.refl _ _)
      obtain ⟨g', o', e1', e2', e3'⟩ := key wr hm
      rw [e1] at e1'
      cases e1'
      exact ⟨g, o, e1, e2', e3', World.block_lt_of_cell? (a := ⟨g, o + j * 2, none⟩) w e2⟩
    have HB23 : Hid (Below w2.heap.size w2 w3) := hb3
    generalize hGE : w2.heap.size = G at HW3 HLG HNE hg8 HCA HB23 ⊢
    have HGE := Lib.hid hGE
    clear hGE
    clear hb3
    have HPLL : Hid ((placesL a).length < 4294967296) := by unfold Hid; rw [placesL_len, ← HN.out]; omega
    have HMK := Lib.hid (ref3_mark HA3.out HQA.out HPLL.out)
    have hcr := commitW_range (l := placesL a) (by rw [placesL_len, ← HN.out]; omega)
    generalize commitW (placesL a) = cw at HMK hcr
    go_upto_region 6 with (go_at_call 69; refine HMK.out.mono ?_; rintro e w4 ⟨rfl, hb4⟩; have HW4 := Lib.hid (HW3.out.mod (mod_of_below hb4) (fun h => h)); have hc4 := HW4.out.cell 8 (by omega); have HB4 := Lib.hid (HB3.out.trans (hb4.mono HB3.out.size)); have HG4 := Lib.hid (HB23.out.trans (hb4.mono (Nat.le_of_lt hg8))); obtain ⟨⟨y4, hy4, -, -⟩, hf4, -, -⟩ := hc4)
    have HW5 := Lib.hid (HW4.out.set 8 (by omega) cw hcr.1 hcr.2)
    have HG5 : Hid (Below G w2 (w4.setCell ⟨G, 8, none⟩ (.int .u64 cw))) := HG4.out.setCell (Nat.le_refl _) _
    have HB5 : Hid (Below w.heap.size w (w4.setCell ⟨G, 8, none⟩ (.int .u64 cw))) := HB4.out.setCell HLG.out _
    clear hy4 hf4 hb4
    generalize w4.setCell ⟨G, 8, none⟩ (.int .u64 cw) = w5 at HW5 HG5 HB5 ⊢
    go_wp2
    go_loopg [8] n (fun gk i wr => ∃ k : Nat, k + gk = n ∧ i = .int .i64 k ∧ Hid (WordsAt wr G G) ∧ Hid (Below G w2 wr) ∧ Hid (Below w.heap.size w wr))
    case atStart => exact ⟨0, by omega, rfl, HW5.out, HG5.out, HB5.out⟩
    case round =>
      obtain ⟨k, hk, rfl, HWR, HGR, HBR⟩ := hrel
      by_cases hlt : k < n
      · obtain ⟨g, o, rfl, e1, e2, hgn⟩ := HCA.out wr HGR.out k hlt
        have hmem := HQA.out _ (getD_mem (ps := placesL a) (by rw [placesL_len, ← HN.out]; exact hlt))
        have hc9 := HWR.out.cell (9 + 2 * k) (by omega)
        obtain ⟨⟨y9, hy9, -, -⟩, hf9, -, -⟩ := hc9
        generalize (placesL a).getD k (0, 0) = x at e1 e2 hmem
        obtain ⟨at_, wd⟩ := x
        simp only at e1 e2 hmem
        obtain ⟨⟨ha0, ha1⟩, hwd0, hwd1⟩ := hmem
        have hconv : IntKind.u64.wrap at_ = at_ := by rw [IntKind.wrap_u64]; omega
        have hk0 : (0 : Int) ≤ (k : Int) := Int.natCast_nonneg _
        have t1 : (9 + 2 * (k : Int)).toNat = 9 + 2 * k := by omega
        have t2 : (10 + 2 * (k : Int)).toNat = 10 + 2 * k := by omega
        have hki : (k : Int) < (n : Int) := by omega
        go_upto_region 10 with (fail)
        have HWS := Lib.hid (HWR.out.set (9 + 2 * k) (by omega) at_ ha0 (by omega))
        have HGS : Hid (Below G w2 (wr.setCell ⟨G, 9 + 2 * k, none⟩ (.int .u64 at_))) := HGR.out.setCell (Nat.le_refl _) _
        have HBS : Hid (Below w.heap.size w (wr.setCell ⟨G, 9 + 2 * k, none⟩ (.int .u64 at_))) := HBR.out.setCell HLG.out _
        have e2' : (wr.setCell ⟨G, 9 + 2 * k, none⟩ (.int .u64 at_)).cell? ⟨g, o + k * 2 + 1, none⟩ = some (.int .u64 wd) := ((Mod.refl (fun b => b = G) wr).setCell (a := ⟨G, 9 + 2 * k, none⟩) (.inl rfl) _).cell e2 hgn
        clear hy9 hf9 e1 e2
        generalize wr.setCell ⟨G, 9 + 2 * k, none⟩ (.int .u64 at_) = ws at HWS HGS HBS e2' ⊢
        have hc10 := HWS.out.cell (10 + 2 * k) (by omega)
        obtain ⟨⟨y10, hy10, -, -⟩, hf10, -, -⟩ := hc10
        have HWT := Lib.hid (HWS.out.set (10 + 2 * k) (by omega) wd hwd0 hwd1)
        have HGT : Hid (Below G w2 (ws.setCell ⟨G, 10 + 2 * k, none⟩ (.int .u64 wd))) := HGS.out.setCell (Nat.le_refl _) _
        have HBT : Hid (Below w.heap.size w (ws.setCell ⟨G, 10 + 2 * k, none⟩ (.int .u64 wd))) := HBS.out.setCell HLG.out _
        go_wp2
        go_roundg (gk - 1)
        case measure => omega
        case rel => exact ⟨k + 1, by omega, by go_num, HWT, HGT, HBT⟩
      · obtain rfl : k = n := by omega
        go_wp2
        go_loopg [9] m (fun gk i wr => ∃ j : Nat, j + gk = m ∧ i = .int .i64 j ∧ Hid (WordsAt wr G G) ∧ Hid (Below G w2 wr) ∧ Hid (Below w.heap.size w wr))
        case atStart => exact ⟨0, by omega, rfl, HWR.out, HGR.out, HBR.out⟩
        case round =>
          obtain ⟨j, hj, rfl, HWR, HGR, HBR⟩ := hrel
          by_cases hlt : j < m
          · obtain ⟨g, o, rfl, e1, e2, hgn⟩ := HCB.out wr HBR.out j hlt
            have hmem := HWB.out _ (getD_mem (ps := b) (by rw [← HM.out]; exact hlt))
            have hgnG : ¬ g = G := by have := HLG.out; omega
            generalize b.getD j (0, 0) = x at e1 e2 hmem
            obtain ⟨at_, wd⟩ := x
            simp only at e1 e2 hmem
            obtain ⟨⟨ha0, ha1⟩, hwd0, hwd1⟩ := hmem
            have ht0 : -830 < at_.tmod 830 := by have := Int.lt_tmod_of_pos at_ (b := 830) (by omega); omega
            have ht1 : at_.tmod 830 < 830 := Int.tmod_lt_of_pos at_ (by omega)
            obtain ⟨r, hr⟩ : ∃ r : Nat, (at_.tmod 830 + 830).tmod 830 = (r : Int) := by
              obtain ⟨z, hz⟩ := Int.eq_ofNat_of_zero_le (a := (at_.tmod 830 + 830).tmod 830) (Int.tmod_nonneg _ (by omega))
              exact ⟨z, hz⟩
            have hr1 : (r : Int) < 830 := by rw [← hr]; exact Int.tmod_lt_of_pos _ (by omega)
            have hr2 : r < 3128 := by omega
            have hcr := HWR.out.cell r hr2
            obtain ⟨⟨yr, hyr, -, -⟩, hfr, -, -⟩ := hcr
            have hk0 : (0 : Int) ≤ (j : Int) := Int.natCast_nonneg _
            have hk1 : (j : Int) < (m : Int) := by omega
            have hr3 : (0 : Int) ≤ (r : Int) := Int.natCast_nonneg _
            have hr4 : (r : Int) < 3128 := by omega
            have hw0 : IntKind.i64.wrap (at_.tmod 830 + 830) = at_.tmod 830 + 830 := by rw [IntKind.wrap_i64]; omega
            have hw1 : IntKind.i64.wrap (at_.tmod 830) = at_.tmod 830 := by rw [IntKind.wrap_i64]; omega
            have hw2 : IntKind.i64.wrap (r : Int) = (r : Int) := by rw [IntKind.wrap_i64]; omega
            go_wp2_with fail
            go_still_tail 15, (by kernel_rfl)
            have hd3 : wr.drew.cell? ⟨G, r, none⟩ = some (.int .u64 yr) := hyr
            have hd4 : wr.drew.frozen? ⟨G, r, none⟩ = false := hfr
            have HWS : Hid (WordsAt (wr.drew.setCell ⟨G, r, none⟩ (.int .u64 wd)) G G) := (HWR.out.mod (D := nob) ((Mod.refl nob wr).drew) (fun h => h)).set r hr2 wd hwd0 hwd1
            have HGS : Hid (Below G w2 (wr.drew.setCell ⟨G, r, none⟩ (.int .u64 wd))) := HGR.out.drew.setCell (Nat.le_refl _) _
            have HBS : Hid (Below w.heap.size w (wr.drew.setCell ⟨G, r, none⟩ (.int .u64 wd))) := HBR.out.drew.setCell HLG.out _
            clear hw0 hw1 hw2 hr
            go_wp2
            go_roundg (gk - 1)
            case measure => omega
            case rel => exact ⟨j + 1, by omega, by go_num, HWS, HGS, HBS⟩
          · obtain rfl : j = m := by omega
            have hc8 := HWR.out.cell 8 (by omega)
            obtain ⟨⟨y8, hy8, hy80, hy81⟩, hf8, -, -⟩ := hc8
            go_upto_if 92 with (fail)
            go_cut [] (fun wc => Hid (WordsAt wc G G) ∧ Hid (Below G w2 wc) ∧ Hid (Below w.heap.size w wc))
            case first =>
              by_cases hm4 : mk % 4 = 1
              · have hmq : ((mk : Int) % 4 == 1) = true := by simp; omega
                go_wp2_with fail
                have hwr := wrap_range (2 ^ (mk % 64))
                have hxr := xor_range hy80 hy81 hwr.1 hwr.2
                go_meet
                case rel => exact ⟨HWR.out.set 8 (by omega) _ hxr.1 hxr.2, HGR.out.setCell (Nat.le_refl _) _, HBR.out.setCell HLG.out _⟩
              · have hmq : ((mk : Int) % 4 == 1) = false := by simp; omega
                go_wp2_with fail
                go_meet
                case rel => exact ⟨HWR, HGR, HBR⟩
            case rest =>
              clear hy8 hf8
              obtain ⟨HWC, HGC, HBC⟩ := hcut
              obtain ⟨xs, hxl, hxu, hxo⟩ := HWC.out
              have HXL := Lib.hid hxl
              have HXU := Lib.hid hxu
              have HXO := Lib.hid hxo
              obtain ⟨T, e1, e2, e3, e4, e5, e6⟩ := replay_plain xs hxl hxu
              have HRP := Lib.hid (And.intro e1 (And.intro e2 (And.intro e3 (And.intro e4 e5))))
              have hst0 := (standing_new xs hxl).1
              have HV : Hid (HoldsU wc (.slice (some ⟨G, 0, none⟩) 3128 3128) xs) := holdsU_of_own (by rw [hxl]; exact hxo)
              have HGW : Hid (G < wc.heap.size) := own_lt hxo G rfl
              have HOF := Lib.hid (pm_of HV.out (by rw [hxl]; omega) hxu)
              have hn0' : True := trivial
              clear hxl hxu hxo e1 e2 e3 e4 e5
              go_wp2_with fail
              refine HOF.out.mono ?_
              rintro e w6 ⟨p, rfl, h6, hb6⟩
              have H6 := Lib.hid h6
              have HB6 : Hid (Below w.heap.size w w6) := HBC.out.trans (hb6.mono HBC.out.size)
              have HV6 := Lib.hid (HV.out.below hb6)
              have HDG : Hid (∀ g, (Value.slice (some ⟨G, 0, none⟩) 3128 3128).ownBlock = some g → ¬ grow nob wc w6 g) := by
                intro g hg hd
                cases hg
                have hgw := HGW.out
                rcases hd with hd | hd
                · exact hd
                · exact absurd hd.1 (show ¬ wc.heap.size ≤ G by omega)
              have HDW : Hid (∀ g, grow nob wc w6 g → w.heap.size ≤ g) := by
                intro g hd
                have := HBC.out.size
                rcases hd with hd | hd
                · exact hd.elim
                · omega
              have HST := Lib.hid (plog_standing H6.out)
              clear h6 hb6 HOF
              generalize grow nob wc w6 = DD at H6 HDG HDW
              go_wp2_with fail
              refine HST.out.mono ?_
              rintro e w7 ⟨v7, rfl, ho7, hb7⟩
              have H7 : Hid (PmAt w7 p DD (Pm.new xs)) := H6.out.mod (mod_of_below hb7) (fun _ _ h => h)
              have HB7 : Hid (Below w.heap.size w w7) := HB6.out.trans (hb7.mono HB6.out.size)
              have HV7 := Lib.hid (HV6.out.below hb7)
              have HRS := Lib.hid (ref3_stands HV7.out HXL.out HXU.out)
              have HO7 := Lib.hid ho7
              rw [hst0]
              have HS67 := hb7.size
              clear ho7 hb7 HST hst0
              have HDL := H6.out.lt
              generalize (Pm.new xs).standing = st at HRS HO7 HRP e6 ⊢
              obtain ⟨l, ok, er⟩ := st
              simp only at HRS HO7 HRP e6 ⊢
              obtain ⟨q, hq⟩ : ∃ q, q = l.length := ⟨_, rfl⟩
              rw [← hq] at HO7 e6
              have HQ := Lib.hid hq
              have HL7 : Hid (HoldsL w7 v7 l) := HoldsL.of_own hq HO7.out
              have HLT7 := Lib.hid (own_lt HO7.out)
              obtain ⟨ao7, cap7, rfl, hcap7, hcm7, -⟩ := own_shape HO7.out
              unfold maxLen at hcm7
              clear hq
              go_wp2_with fail
              refine HRS.out.mono ?_
              rintro e w8 ⟨v8, rfl, ho8, hb8⟩
              rw [← HQ.out] at ho8
              have H8 : Hid (PmAt w8 p DD (Pm.new xs)) := H7.out.mod (mod_of_below hb8) (fun _ _ h => h)
              have HB8 : Hid (Below w.heap.size w w8) := HB7.out.trans (hb8.mono HB7.out.size)
              have HV8 := Lib.hid (HV7.out.below hb8)
              have HL8 := Lib.hid (HL7.out.below hb8)
              have HLW : Hid (HoldsL w8 v8 l) := HoldsL.of_own HQ.out ho8
              have HD8 : Hid (∀ g, v8.ownBlock = some g → ¬ DD g) := by
                intro g hg hd
                have h1 := own_ge ho8 g hg
                have h2 := HB7.out.size
                have h3 := HDL g hd
                omega
              obtain ⟨ao8, cap8, rfl, hcap8, hcm8, -⟩ := own_shape ho8
              unfold maxLen at hcm8
              have hbb : (ok != ok) = false := by simp
              have hqq : ((q : Int) != (q : Int)) = false := by simp
              clear ho8 hb8 HRS
              go_wp2_with fail
              have HE6 := Lib.hid e6
              clear HDL e6
              go_loopg [16] q (fun gk i wr => ∃ t : Nat, t + gk = q ∧ i = .int .i64 t ∧ Hid (Mod nob w8 wr))
              case atStart => exact ⟨0, by omega, rfl, Mod.refl _ _⟩
              case round =>
                obtain ⟨t, ht, rfl, HMR⟩ := hrel
                by_cases hlt : t < q
                · obtain ⟨ax, cx, ex, -, -, hx3⟩ := HL8.out.mod HMR.out (fun _ _ h => h)
                  obtain ⟨ay, cy, ey, -, -, hy3⟩ := HLW.out.mod HMR.out (fun _ _ h => h)
                  rw [← HQ.out] at ex hx3 ey hy3
                  simp only [Value.slice.injEq] at ex ey
                  obtain ⟨rfl, -, rfl⟩ := ex
                  obtain ⟨rfl, -, rfl⟩ := ey
                  obtain ⟨g1, o1, rfl, c1, c2⟩ := hx3 t hlt
                  obtain ⟨g2, o2, rfl, c3, c4⟩ := hy3 t hlt
                  generalize l.getD t (0, 0) = x at c1 c2 c3 c4
                  obtain ⟨at_, wd⟩ := x
                  simp only at c1 c2 c3 c4
                  have ht0 : (0 : Int) ≤ (t : Int) := Int.natCast_nonneg _
                  have ht1 : (t : Int) < (q : Int) := by omega
                  clear hx3 hy3
                  go_wp2_with fail
                  go_quiet (fail)
                  have HMQ : Hid (Mod nob w8 (wr.drewN nq)) := HMR.out.drewN nq
                  clear c1 c2 c3 c4
                  go_wp2
                  go_roundg (gk - 1)
                  case measure => omega
                  case rel => exact ⟨t + 1, by omega, by go_num, HMQ⟩
                · obtain rfl : t = q := by omega
                  have H9 : Hid (PmAt wr p DD (Pm.new xs)) := H8.out.mod HMR.out (fun _ _ h => h)
                  have hB : Below w8.heap.size w8 wr := nob_mod_below HMR.out
                  have HV9 := Lib.hid (HV8.out.below hB)
                  have HL9 := Lib.hid (HLW.out.mod HMR.out (fun _ _ h => h))
                  have HB9 : Hid (Below w.heap.size w wr) := HB8.out.trans (hB.mono HB8.out.size)
                  have hrp := plog_replay H9.out (by show 0 + 10000 < _; omega)
                  rw [HRP.out.1] at hrp
                  have HRPL := Lib.hid hrp
                  clear hB hrp
                  go_wp2_with fail
                  refine HRPL.out.mono ?_
                  rintro e w10 ⟨rfl, h10, m10⟩
                  have H10 := Lib.hid h10
                  have HB10 : Hid (Below w.heap.size w w10) := HB9.out.trans (m10.below HB9.out.size HDW.out)
                  have HV10 := Lib.hid (HV9.out.mod m10 HDG.out)
                  have HL10 := Lib.hid (HL9.out.mod m10 HD8.out)
                  have haf := ref3_after HV10.out HL10.out (by rw [HXL.out]; omega) (by intro x hx; rw [HXL.out]; have := HRP.out.2.2.2.2 x hx; omega) (by rw [← HQ.out]; have := HE6.out; omega)
                  rw [HXL.out] at haf
                  have HAF := Lib.hid haf
                  clear h10 m10 haf
                  go_wp2_with fail
                  refine HAF.out.mono ?_
                  rintro e w11 ⟨v11, rfl, ho11, hb11⟩
                  have HLL : Hid ((afterL xs l).length = 3128) := by unfold Hid; rw [afterL_len]; exact HXL.out
                  have HU11 : Hid (HoldsU w11 v11 (afterL xs l)) := holdsU_of_own (by rw [HLL.out]; exact ho11)
                  have H11 : Hid (PmAt w11 p DD T) := H10.out.mod (mod_of_below hb11) (fun _ _ h => h)
                  have HB11 : Hid (Below w.heap.size w w11) := HB10.out.trans (hb11.mono HB10.out.size)
                  have HSM := Lib.hid (law3_same H11.out HU11.out HLL.out HRP.out.2.1 HRP.out.2.2.1 HRP.out.2.2.2.1)
                  obtain ⟨ao11, cap11, rfl, -, -, -⟩ := own_shape ho11
                  clear ho11 hb11
                  go_wp2_with fail
                  refine HSM.out.mono ?_
                  rintro e w12 ⟨rfl, rfl⟩
                  go_wp2
                  go_ret
                  exact ⟨rfl, HB11.out⟩
  · rcases (show 60 < n ∨ (n ≤ 60 ∧ 20 < m) ∨ (n = 0 ∧ m ≤ 20) by omega) with h2 | ⟨h2, h3⟩ | ⟨rfl, h3⟩
    all_goals
      clear h1 hn hm
      go_enter Try.func14, Try.ntmps14
      go_wp2_with fail
      refine (awake3 _).mono ?_
      rintro e w1 ⟨rfl, hb1⟩
      go_wp2_with fail
      refine (awake3 _).mono ?_
      rintro e w2 ⟨rfl, hb2⟩
      go_wp2
      go_ret
      exact ⟨rfl, hb1.trans (hb2.mono hb1.size)⟩
end Go.Proofs.Ytcbcemeagiociaa
