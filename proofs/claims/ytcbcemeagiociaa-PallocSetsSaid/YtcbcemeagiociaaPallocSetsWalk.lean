import Derived.Test.YtcbcemeagiociaaPallocBits
namespace Go.Proofs.Ytcbcemeagiociaa
open Go.ChangeShapes Go.WideShapes Go.ChangeAt Go.RowKit
set_option linter.unusedSimpArgs false
set_option linter.unusedVariables false

theorem set_out {w : World} {p : Nat} (b : Int) (hb : ¬ (0 ≤ b ∧ b < 256)) (u : Bool) :
    Calls Try.prog 52 #[.pointer (some ⟨p, 0, none⟩), .int .i64 b, .bool u] w fun e w' => e = .returned (.tuple #[]) ∧ w = w' := by
  have HB : Hid (decide (0 ≤ b ∧ b < 256) = false) := decide_eq_false hb
  clear hb
  go_enter Try.func52, Try.ntmps52
  go_wp2_with (go_at_call 80; refine (pin_any _ _).mono ?_; rintro e w' ⟨rfl, rfl⟩; rw [HB.out])
  refine bodyPost_ret (results_none rfl _ _ _) rfl ?_
  exact ⟨rfl, rfl⟩

theorem pairs_one {S : Sh} (j : Nat) (h : ∀ k, k ≠ j → S.now k = S.beneath k) (k : Nat) : (pairsTo S k).length ≤ if j < k then 1 else 0 := by
  induction k with
  | zero => simp [pairsTo]
  | succ k ih =>
    simp only [pairsTo, List.length_append]
    by_cases e : k = j
    · subst e
      rw [if_neg (by omega)] at ih
      have h0 : (pairsTo S k).length = 0 := by omega
      rw [if_pos (Nat.lt_succ_self k), h0]
      split <;> simp
    · rw [if_pos (h k e)]
      by_cases hj : j < k
      · rw [if_pos hj] at ih; rw [if_pos (by omega)]; simpa using ih
      · rw [if_neg hj] at ih; rw [if_neg (by omega)]; simpa using ih

theorem bit_sheet (a : Nat → Int) (b : Nat) (hb : b < 256) : bitB (Sh.new (row5 (w5 a))) b = bitOf a b := by
  unfold bitB bitOf
  have : (Sh.new (row5 (w5 a))).now (816 + b / 64) = a (b / 64) := by
    simp only [Sh.new]
    rw [if_pos (by omega), List.getD_eq_getElem?_getD, row5_get _ _ (by omega)]
    simp only [Option.getD_some, w5]
    rw [if_pos (by omega), Nat.add_sub_cancel_left]
  rw [this]

theorem pairs_setB (l : List Int) (b : Nat) (hb : b < 256) (u : Bool) : (pairsTo (setB (Sh.new l) b u) 3128).length ≤ 1 := by
  have h : ∀ k, k ≠ 816 + b / 64 → (setB (Sh.new l) b u).now k = (setB (Sh.new l) b u).beneath k := by
    intro k hk
    unfold setB
    split
    · rfl
    · rw [beneath_put, now_put _ _ _ (by omega), if_neg hk]
      rfl
  have := pairs_one _ h 3128
  rw [if_pos (by omega)] at this
  exact this

theorem pairs_new (l : List Int) : (pairsTo (Sh.new l) 3128).length ≤ 1 := by
  have := pairs_one (S := Sh.new l) 0 (fun k _ => rfl) 3128
  rw [if_pos (by omega)] at this
  exact this

/-- Pairs, where there is one at most. -/
def PairsOne (S : Sh) : Prop := ∀ (w : World) (p : Nat) (D : Nat → Prop), SheetAt w p D S →
    Calls Try.prog 53 #[.pointer (some ⟨p, 0, none⟩)] w fun e w' => ∃ ao m cap, e = .returned (.slice ao m cap) ∧ m ≤ 1 ∧ Below w.heap.size w w'

theorem pairs_le {S : Sh} (h1 : (pairsTo S 3128).length ≤ 1) : PairsOne S := fun w p D h =>
  (pairs_any h).mono fun e w' ⟨v, he, ho, hb⟩ => by
    obtain ⟨ao, cap, hv, _⟩ := own_shape ho
    exact ⟨ao, _, cap, by rw [he, hv], h1, hb⟩

set_option maxRecDepth 20000 in
set_option maxHeartbeats 2000000 in
theorem sets_out0 (a : Nat → Int) (S : Sh) (b : Int) (hb : b < 0 ∨ 256 ≤ b) (u : Bool) (w : World)
    (HSH : Hid (∀ w, Calls Try.prog 47 #[.agg #[.int .u64 (a 0), .int .u64 (a 1), .int .u64 (a 2), .int .u64 (a 3)]] w fun e w' => ∃ p, e = .returned (.pointer (some ⟨p, 0, none⟩)) ∧ SheetAt w' p (grow nob w w') S ∧ Below w.heap.size w w'))
    (HBITS : Hid (∀ w, Calls Try.prog 50 #[.agg #[.int .u64 (a 0), .int .u64 (a 1), .int .u64 (a 2), .int .u64 (a 3)]] w fun e w' => ∃ g, e = .returned (.slice (some ⟨g, 0, none⟩) 256 256) ∧ w.heap.size ≤ g ∧ Bools w' g (bitOf a) ∧ Below w.heap.size w w'))
    (HUO : Hid (∀ w p, Calls Try.prog 51 #[.pointer (some ⟨p, 0, none⟩), .int .i64 b] w fun e w' => e = .returned (.bool true) ∧ w = w'))
    (HSO : Hid (∀ w p, Calls Try.prog 52 #[.pointer (some ⟨p, 0, none⟩), .int .i64 b, .bool u] w fun e w' => e = .returned (.tuple #[]) ∧ w = w'))
    (HBS : Hid (∀ k, k < 256 → bitB S k = bitOf a k)) (HPA : Hid (PairsOne S)) :
    Calls Try.prog 11 #[.agg #[.int .u64 (a 0), .int .u64 (a 1), .int .u64 (a 2), .int .u64 (a 3)], .int .i64 b, .bool u] w fun e w' => e = .returned (.bool true) ∧ Below w.heap.size w w' := by
  rcases hb with hb' | hb'
  all_goals
    go_enter Try.func11, Try.ntmps11
    go_wp2_with fail
    refine (awake5 _).mono ?_
    rintro e w1 ⟨rfl, hb1⟩
    have hbox := boxed_below (boxed_new w _ _ _) hb1 (by simp)
    have c0 : w1.cell? ⟨w.heap.size, 0, none⟩ = some (.int .u64 (a 0)) := hbox 0
    have c1 : w1.cell? ⟨w.heap.size, 1, none⟩ = some (.int .u64 (a 1)) := hbox 1
    have c2 : w1.cell? ⟨w.heap.size, 2, none⟩ = some (.int .u64 (a 2)) := hbox 2
    have c3 : w1.cell? ⟨w.heap.size, 3, none⟩ = some (.int .u64 (a 3)) := hbox 3
    have hlw := Nat.lt_of_lt_of_le (show w.heap.size < (w.alloc (.cells #[Value.int .u64 (a 0), .int .u64 (a 1), .int .u64 (a 2), .int .u64 (a 3)] 68)).heap.size by simp) hb1.size
    have HB1 := Lib.hid (((Below.refl w.heap.size w).alloc (Nat.le_refl _) _).trans (hb1.mono (by simp)))
    clear hb1 hbox
    go_wp2_with fail
    refine (HSH.out _).mono ?_
    rintro e w2 ⟨p, rfl, hS, hb2⟩
    have d0 := (hb2.cell (p := ⟨w.heap.size, 0, none⟩) hlw).trans c0
    have d1 := (hb2.cell (p := ⟨w.heap.size, 1, none⟩) hlw).trans c1
    have d2 := (hb2.cell (p := ⟨w.heap.size, 2, none⟩) hlw).trans c2
    have d3 := (hb2.cell (p := ⟨w.heap.size, 3, none⟩) hlw).trans c3
    have HS := Lib.hid hS
    have HB2 := Lib.hid (HB1.out.trans (hb2.mono HB1.out.size))
    clear hS hb2 c0 c1 c2 c3
    go_wp2_with fail
    refine (HBITS.out _).mono ?_
    rintro e w3 ⟨g, rfl, hg, hbo, hb3⟩
    have HS3 := Lib.hid (HS.out.mod (mod_of_below hb3) (fun _ _ h => h))
    have HBO := Lib.hid hbo
    have HB3 := Lib.hid (HB2.out.trans (hb3.mono HB2.out.size))
    clear hbo hb3 d0 d1 d2 d3 hlw
    go_wp2_with (first | (go_at_call 51; refine (HUO.out _ _).mono ?_; rintro e w' ⟨rfl, rfl⟩) | (go_at_call 52; refine (HSO.out _ _).mono ?_; rintro e w' ⟨rfl, rfl⟩))
    go_loopg [10] 256 (fun g i wr => ∃ k : Nat, k + g = 256 ∧ i = .int .i64 k ∧ Hid (∃ n, wr = w3.drewN n))
    case atStart => exact ⟨0, by omega, rfl, 0, rfl⟩
    case round =>
      obtain ⟨k, hk, rfl, HND⟩ := hrel
      have hmod : Mod nob w3 wr := by obtain ⟨n, rfl⟩ := HND.out; exact (Mod.refl nob w3).drewN n
      have HSR := Lib.hid (HS3.out.mod hmod (fun _ _ h => h))
      have HBR := Lib.hid (HBO.out.mod hmod (fun h => h))
      clear hmod
      by_cases hlt : k < 256
      · have hc := HBR.out.cell k hlt
        have HUK : Hid (∀ n, Calls Try.prog 51 #[.pointer (some ⟨p, 0, none⟩), .int .i64 (k : Nat)] (wr.drewN n) fun e w' => e = .returned (.bool (bitOf a k)) ∧ w' = wr.drewN n) := by
          intro n
          rw [← HBS.out k hlt]
          exact (used_any (HSR.out.mod ((Mod.refl nob wr).drewN n) (fun _ _ h => h)) k hlt).mono fun e w' ⟨h1, h2⟩ => ⟨h1, h2.symm⟩
        generalize bitOf a k = bk at hc HUK
        have hne : (bk != bk) = false := by simp
        go_wp2
        go_quiet ((go_at_call 51; exact Calls.quiet_of_same (HUK.out _)))
        go_wp2
        go_roundg (gk - 1)
        case measure => omega
        case rel => exact ⟨k + 1, by omega, (by simp), by obtain ⟨n, h⟩ := HND.out; exact ⟨_, by rw [h, World.drewN_drewN]⟩⟩
      · go_wp2_with (go_at_call 53; refine (HPA.out _ _ _ HSR.out).mono ?_; rintro e w5 ⟨ao, m, cap, rfl, hm, hb5⟩)
        go_ret
        have hb : Below w.heap.size w wr := by obtain ⟨n, rfl⟩ := HND.out; exact below_drewN HB3.out n
        exact ⟨by simp; omega, hb.trans (hb5.mono hb.size)⟩

set_option maxRecDepth 20000 in
set_option maxHeartbeats 4000000 in
theorem sets_in0 (a : Nat → Int) (S S1 : Sh) (b : Nat) (hb : b < 256) (u : Bool) (w : World)
    (HSH : Hid (∀ w, Calls Try.prog 47 #[.agg #[.int .u64 (a 0), .int .u64 (a 1), .int .u64 (a 2), .int .u64 (a 3)]] w fun e w' => ∃ p, e = .returned (.pointer (some ⟨p, 0, none⟩)) ∧ SheetAt w' p (grow nob w w') S ∧ Below w.heap.size w w'))
    (HBITS : Hid (∀ w, Calls Try.prog 50 #[.agg #[.int .u64 (a 0), .int .u64 (a 1), .int .u64 (a 2), .int .u64 (a 3)]] w fun e w' => ∃ g, e = .returned (.slice (some ⟨g, 0, none⟩) 256 256) ∧ w.heap.size ≤ g ∧ Bools w' g (bitOf a) ∧ Below w.heap.size w w'))
    (HUSE : Hid (∀ w p D, SheetAt w p D S → Calls Try.prog 51 #[.pointer (some ⟨p, 0, none⟩), .int .i64 b] w fun e w' => e = .returned (.bool (bitOf a b)) ∧ w = w'))
    (HSET : Hid (∀ w p D, SheetAt w p D S → Calls Try.prog 52 #[.pointer (some ⟨p, 0, none⟩), .int .i64 b, .bool u] w fun e w' => e = .returned (.tuple #[]) ∧ SheetAt w' p (grow D w w') S1 ∧ Mod D w w'))
    (HBS : Hid (∀ k, k < 256 → bitB S1 k = if k = b ∧ b ≠ 0 then u else bitOf a k)) (HPA : Hid (PairsOne S1)) :
    Calls Try.prog 11 #[.agg #[.int .u64 (a 0), .int .u64 (a 1), .int .u64 (a 2), .int .u64 (a 3)], .int .i64 b, .bool u] w fun e w' => e = .returned (.bool true) ∧ Below w.heap.size w w' := by
  go_enter Try.func11, Try.ntmps11
  go_wp2_with fail
  refine (awake5 _).mono ?_
  rintro e w1 ⟨rfl, hb1⟩
  have hbox := boxed_below (boxed_new w _ _ _) hb1 (by simp)
  have c0 : w1.cell? ⟨w.heap.size, 0, none⟩ = some (.int .u64 (a 0)) := hbox 0
  have c1 : w1.cell? ⟨w.heap.size, 1, none⟩ = some (.int .u64 (a 1)) := hbox 1
  have c2 : w1.cell? ⟨w.heap.size, 2, none⟩ = some (.int .u64 (a 2)) := hbox 2
  have c3 : w1.cell? ⟨w.heap.size, 3, none⟩ = some (.int .u64 (a 3)) := hbox 3
  have hlw := Nat.lt_of_lt_of_le (show w.heap.size < (w.alloc (.cells #[Value.int .u64 (a 0), .int .u64 (a 1), .int .u64 (a 2), .int .u64 (a 3)] 68)).heap.size by simp) hb1.size
  have HB1 := Lib.hid (((Below.refl w.heap.size w).alloc (Nat.le_refl _) _).trans (hb1.mono (by simp)))
  clear hb1 hbox
  go_wp2_with fail
  refine (HSH.out _).mono ?_
  rintro e w2 ⟨p, rfl, hS, hb2⟩
  have d0 := (hb2.cell (p := ⟨w.heap.size, 0, none⟩) hlw).trans c0
  have d1 := (hb2.cell (p := ⟨w.heap.size, 1, none⟩) hlw).trans c1
  have d2 := (hb2.cell (p := ⟨w.heap.size, 2, none⟩) hlw).trans c2
  have d3 := (hb2.cell (p := ⟨w.heap.size, 3, none⟩) hlw).trans c3
  have HS := Lib.hid hS
  have HB2 := Lib.hid (HB1.out.trans (hb2.mono HB1.out.size))
  clear hS hb2 c0 c1 c2 c3
  go_wp2_with fail
  refine (HBITS.out _).mono ?_
  rintro e w3 ⟨g, rfl, hg, hbo, hb3⟩
  have HS3 := Lib.hid (HS.out.mod (mod_of_below hb3) (fun _ _ h => h))
  have HBO := Lib.hid hbo
  have HB3 := Lib.hid (HB2.out.trans (hb3.mono HB2.out.size))
  clear hbo hb3 d0 d1 d2 d3 hlw

  have hc := HBO.out.cell b hb
  have HUS := Lib.hid (HUSE.out _ _ _ HS3.out)
  have HSE := Lib.hid (HSET.out _ _ _ HS3.out)
  obtain ⟨bb, hbb⟩ : ∃ bb, bb = bitOf a b := ⟨_, rfl⟩
  rw [← hbb] at hc HUS
  have hne : (bb != bb) = false := by simp
  clear hbb
  go_wp2_with (go_at_call 51; refine HUS.out.mono ?_; rintro e w' ⟨rfl, rfl⟩)
  refine HSE.out.mono ?_
  rintro e w4 ⟨rfl, hs4, hm4⟩
  have hgD : ¬ grow nob w1 w2 g := fun h => by have := HS.out.lt g h; omega
  have HBO4 := Lib.hid (HBO.out.mod hm4 hgD)
  have hlt3 := HBO.out.lt
  have HBE4 : Hid (Below w.heap.size w w4) := by
    have hb := HB3.out
    exact hb.trans (hm4.below hb.size (fun b h => by rcases h with h | h; exact h.elim; have := HB1.out.size; exact Nat.le_trans (by omega) h.1))
  have HG4 : Hid (¬ grow (grow nob w1 w2) w3 w4 g) := fun h => by
    rcases h with h | h
    · exact hgD h
    · omega
  have HS4 := Lib.hid hs4
  have HGW : Hid (w.heap.size ≤ g) := by have := HB2.out.size; unfold Hid; omega
  clear hs4 hm4 hgD hc hlt3
  by_cases hb0 : b = 0
  · have HS5 := HS4
    have HBE := HBE4
    have HBO5 : Hid (Bools w4 g (fun k => if k = b ∧ b ≠ 0 then u else bitOf a k)) := by
      obtain ⟨cs, h1, h2, h3⟩ := HBO4.out
      exact ⟨cs, h1, h2, fun i hi => by rw [h3 i hi]; simp only; rw [if_neg (by omega)]⟩
    obtain ⟨w5, hw5⟩ : ∃ w5, w5 = w4 := ⟨_, rfl⟩
    rw [← hw5] at HS5 HBE HBO5
    rw [← hw5]
    clear hw5
    subst hb0
    go_wp2
    go_loopg [10] 256 (fun g i wr => ∃ k : Nat, k + g = 256 ∧ i = .int .i64 k ∧ Hid (∃ n, wr = w5.drewN n))
    case atStart => exact ⟨0, by omega, rfl, 0, rfl⟩
    case round =>
      obtain ⟨k, hk, rfl, HND⟩ := hrel
      have hmod : Mod nob w5 wr := by obtain ⟨n, rfl⟩ := HND.out; exact (Mod.refl nob w5).drewN n
      have HSR := Lib.hid (HS5.out.mod hmod (fun _ _ h => h))
      have HBR := Lib.hid (HBO5.out.mod hmod (fun h => h))
      clear hmod
      by_cases hlt : k < 256
      · have hc := HBR.out.cell k hlt
        rw [← HBS.out k hlt] at hc
        have HUK : Hid (∀ n, Calls Try.prog 51 #[.pointer (some ⟨p, 0, none⟩), .int .i64 (k : Nat)] (wr.drewN n) fun e w' => e = .returned (.bool (bitB S1 k)) ∧ w' = wr.drewN n) := by
          intro n
          exact (used_any (HSR.out.mod ((Mod.refl nob wr).drewN n) (fun _ _ h => h)) k hlt).mono fun e w' ⟨h1, h2⟩ => ⟨h1, h2.symm⟩
        generalize bitB S1 k = bk at hc HUK
        have hne : (bk != bk) = false := by simp
        go_wp2
        go_quiet ((go_at_call 51; exact Calls.quiet_of_same (HUK.out _)))
        go_wp2
        go_roundg (gk - 1)
        case measure => omega
        case rel => exact ⟨k + 1, by omega, (by simp), by obtain ⟨n, h⟩ := HND.out; exact ⟨_, by rw [h, World.drewN_drewN]⟩⟩
      · go_wp2_with (go_at_call 53; refine (HPA.out _ _ _ HSR.out).mono ?_; rintro e w6 ⟨ao, m, cap, rfl, hm, hb6⟩)
        go_ret
        have hb : Below w.heap.size w wr := by obtain ⟨n, rfl⟩ := HND.out; exact below_drewN HBE.out n
        exact ⟨by simp; omega, hb.trans (hb6.mono hb.size)⟩
  · have hc4 := HBO4.out.cell b hb
    have hf4 := HBO4.out.frozen b
    have hm5 : Mod (fun k => k = g) w4 (w4.setCell ⟨g, b, none⟩ (.bool u)) := (Mod.refl (fun k => k = g) w4).setCell (a := ⟨g, b, none⟩) (.inl rfl) _
    have HS5 := Lib.hid (HS4.out.mod hm5 (fun k hk hkg => HG4.out (hkg ▸ hk)))
    have HBE : Hid (Below w.heap.size w (w4.setCell ⟨g, b, none⟩ (.bool u))) := HBE4.out.setCell HGW.out _
    have HBO5 : Hid (Bools (w4.setCell ⟨g, b, none⟩ (.bool u)) g (fun k => if k = b ∧ b ≠ 0 then u else bitOf a k)) := by
      obtain ⟨cs, h1, h2, h3⟩ := HBO4.out.set b u
      refine ⟨cs, h1, h2, fun i hi => ?_⟩
      rw [h3 i hi]
      simp only
      by_cases e : i = b
      · rw [if_pos e, if_pos ⟨e, hb0⟩]
      · rw [if_neg e, if_neg (fun h => e h.1)]
    have hb1 : 0 < b := by omega
    clear hm5
    go_wp2
    generalize w4.setCell ⟨g, b, none⟩ (.bool u) = w5 at HS5 HBE HBO5 ⊢
    go_loopg [10] 256 (fun g i wr => ∃ k : Nat, k + g = 256 ∧ i = .int .i64 k ∧ Hid (∃ n, wr = w5.drewN n))
    case atStart => exact ⟨0, by omega, rfl, 0, rfl⟩
    case round =>
      obtain ⟨k, hk, rfl, HND⟩ := hrel
      have hmod : Mod nob w5 wr := by obtain ⟨n, rfl⟩ := HND.out; exact (Mod.refl nob w5).drewN n
      have HSR := Lib.hid (HS5.out.mod hmod (fun _ _ h => h))
      have HBR := Lib.hid (HBO5.out.mod hmod (fun h => h))
      clear hmod
      by_cases hlt : k < 256
      · have hc := HBR.out.cell k hlt
        rw [← HBS.out k hlt] at hc
        have HUK : Hid (∀ n, Calls Try.prog 51 #[.pointer (some ⟨p, 0, none⟩), .int .i64 (k : Nat)] (wr.drewN n) fun e w' => e = .returned (.bool (bitB S1 k)) ∧ w' = wr.drewN n) := by
          intro n
          exact (used_any (HSR.out.mod ((Mod.refl nob wr).drewN n) (fun _ _ h => h)) k hlt).mono fun e w' ⟨h1, h2⟩ => ⟨h1, h2.symm⟩
        generalize bitB S1 k = bk at hc HUK
        have hne : (bk != bk) = false := by simp
        go_wp2
        go_quiet ((go_at_call 51; exact Calls.quiet_of_same (HUK.out _)))
        go_wp2
        go_roundg (gk - 1)
        case measure => omega
        case rel => exact ⟨k + 1, by omega, (by simp), by obtain ⟨n, h⟩ := HND.out; exact ⟨_, by rw [h, World.drewN_drewN]⟩⟩
      · go_wp2_with (go_at_call 53; refine (HPA.out _ _ _ HSR.out).mono ?_; rintro e w6 ⟨ao, m, cap, rfl, hm, hb6⟩)
        go_ret
        have hb : Below w.heap.size w wr := by obtain ⟨n, rfl⟩ := HND.out; exact below_drewN HBE.out n
        exact ⟨by simp; omega, hb.trans (hb6.mono hb.size)⟩

theorem law_sets (a : Nat → Int) (ha : ∀ i, 0 ≤ a i ∧ a i < 18446744073709551616) (b : Int) (u : Bool) (w : World) :
    Calls Try.prog 11 #[.agg #[.int .u64 (a 0), .int .u64 (a 1), .int .u64 (a 2), .int .u64 (a 3)], .int .i64 b, .bool u] w fun e w' => e = .returned (.bool true) ∧ Below w.heap.size w w' := by
  by_cases hb : 0 ≤ b ∧ b < 256
  · obtain ⟨n, rfl⟩ := Int.eq_ofNat_of_zero_le hb.1
    have hn : n < 256 := by omega
    have hw : (Sh.new (row5 (w5 a))).was.length < 1099511627776 := by
      show ([] : List (Nat × Int)).length < _
      simp
    exact sets_in0 a (Sh.new (row5 (w5 a))) (setB (Sh.new (row5 (w5 a))) n u) n hn u w (fun w => sheet5_any a ha) (fun w => bits_any a ha)
      (fun w p D h => by rw [← bit_sheet a n hn]; exact used_any h n hn) (fun w p D h => set_any h hw n hn u)
      (fun k hk => by rw [bit_setB n hn u k hk, bit_sheet a k hk]) (pairs_le (pairs_setB _ n hn u))
  · exact sets_out0 a (Sh.new (row5 (w5 a))) b (by omega) u w (fun w => sheet5_any a ha) (fun w => bits_any a ha) (fun w p => used_out b hb) (fun w p => set_out b hb u)
      (fun k hk => bit_sheet a k hk) (pairs_le (pairs_new _))

def four' (x0 x1 x2 x3 : Int) : Nat → Int
  | 0 => x0
  | 1 => x1
  | 2 => x2
  | _ => x3

theorem four'_all {p : Int → Prop} {x0 x1 x2 x3 : Int} (h : ∀ z ∈ [x0, x1, x2, x3], p z) (i : Nat) : p (four' x0 x1 x2 x3 i) := by
  match i with
  | 0 => exact h _ (by simp [four'])
  | 1 => exact h _ (by simp [four'])
  | 2 => exact h _ (by simp [four'])
  | _ + 3 => exact h _ (by simp [four'])

theorem law_sets4 (x0 x1 x2 x3 : Int) (h : ∀ z ∈ [x0, x1, x2, x3], 0 ≤ z ∧ z < 18446744073709551616) (b : Int) (u : Bool) (w : World) :
    Calls Try.prog 11 #[.agg #[.int .u64 x0, .int .u64 x1, .int .u64 x2, .int .u64 x3], .int .i64 b, .bool u] w fun e w' => e = .returned (.bool true) ∧ Below w.heap.size w w' :=
  law_sets (four' x0 x1 x2 x3) (four'_all h) b u w
end Go.Proofs.Ytcbcemeagiociaa
