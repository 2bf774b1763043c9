/-
  imagoref09.Below: a contract. No condition but the bounds that are typed.
-/
import Derived.Test.YtlopdbhjdijlmaaQReach9
import Derived.Test.YtlopdbhjdijlmaaQTabL

namespace Go.Proofs.Ytlopdbhjdijlmaa
open Go.ChangeShapes Go.WideShapes Go.ChangeAt Go.RowKit
set_option linter.unusedSimpArgs false
set_option linter.unusedVariables false

/-- A block of 32 booleans. -/
def Bits32 (w : World) (g : Nat) (f : Nat → Bool) : Prop :=
  ∃ cs : Array Value, w.heap[g]? = some (.cells cs 113 (0, 0)) ∧ cs.size = 32 ∧ ∀ i, i < 32 → cs[i]? = some (.bool (f i))
theorem Bits32.cell {w : World} {g : Nat} {f : Nat → Bool} (h : Bits32 w g f) (i : Nat) (hi : i < 32) : w.cell? ⟨g, i, none⟩ = some (.bool (f i)) := by
  obtain ⟨cs, hg, _, hc⟩ := h
  rw [cell_of_row _ _ _ _ _ _ hg]
  exact hc i hi
theorem Bits32.frozen {w : World} {g : Nat} {f : Nat → Bool} (h : Bits32 w g f) (i : Nat) : w.frozen? ⟨g, i, none⟩ = false := by
  obtain ⟨cs, hg, _⟩ := h
  exact frozen_of_row w g i cs _ hg
theorem Bits32.mod {w w' : World} {g : Nat} {f : Nat → Bool} (h : Bits32 w g f) {D : Nat → Prop} (hm : Mod D w w') (hg : ¬ D g) : Bits32 w' g f := by
  obtain ⟨cs, hh, r⟩ := h
  exact ⟨cs, hm.heap hh hg, r⟩
theorem Bits32.set {w : World} {g : Nat} {f : Nat → Bool} (h : Bits32 w g f) (i : Nat) (v : Bool) : Bits32 (w.setCell ⟨g, i, none⟩ (.bool v)) g (fun k => if k = i then v else f k) := by
  obtain ⟨cs, hh, h1, h4⟩ := h
  refine ⟨_, heap_setCell_same w g i cs _ _ hh, by simpa using h1, fun k hk => ?_⟩
  simp only
  by_cases e : k = i
  · subst e
    rw [if_pos rfl, Array.getElem?_setIfInBounds]
    simp only [if_true]
    rw [if_pos (by omega)]
  · rw [if_neg e, Array.getElem?_setIfInBounds]
    rw [if_neg (fun h => e h.symm)]
    exact h4 k hk

abbrev z32b : Array Value := #[.bool false, .bool false, .bool false, .bool false, .bool false, .bool false, .bool false, .bool false, .bool false, .bool false, .bool false, .bool false, .bool false, .bool false, .bool false, .bool false, .bool false, .bool false, .bool false, .bool false, .bool false, .bool false, .bool false, .bool false, .bool false, .bool false, .bool false, .bool false, .bool false, .bool false, .bool false, .bool false]
theorem Bits32.new (w : World) : Bits32 (w.alloc (.cells z32b 113)) w.heap.size (fun _ => false) := by
  refine ⟨_, heap_alloc_new _ _, rfl, fun i hi => ?_⟩
  have e : z32b = (List.replicate 32 (Value.bool false)).toArray := rfl
  rw [e, List.getElem?_toArray, List.getElem?_replicate, if_pos hi]

theorem TabB.evc {w : World} {B : Nat} {f : Nat → Ino} {ev : Nat → Value} (h : TabB w B f ev) (i : Nat) (hi : i < 32) : w.cell? ⟨B, i * 18 + 17, none⟩ = some (ev i) := by
  have := h.range i hi 17 (ev i) (inoL_get (h.2 i hi) (ev i)).2.2.2.2.2
  exact this

set_option maxRecDepth 20000 in
set_option maxHeartbeats 8000000 in
theorem refBelow9 {w : World} {t : Nat → Ino} {ev : Nat → Value} (hr : RightT t) (he : HoldsT w t ev) (hE : EntsIn t) (hn : ∀ k, k < 32 → (t k).ents.length ≤ 1000) (d i : Int) :
    Calls Try.prog 45 #[.agg (tabL t ev).toArray, .int .i64 d, .int .i64 i] w fun e w' => e = .returned (.bool (belB t d i)) ∧ Below w.heap.size w w' := by
  have hb := TabB.new hr.len (ev := ev) w
  have HBEL : Hid (Below w.heap.size w (w.alloc (.cells (tabL t ev).toArray 44))) := (Below.refl _ _).alloc (Nat.le_refl _) _
  have HM0 : Hid (Mod nob w (w.alloc (.cells (tabL t ev).toArray 44))) := (Mod.refl nob w).alloc _
  have HT := Lib.hid hb
  have HE := Lib.hid (he.still HM0.out)
  have HEI := Lib.hid hE
  have HNL := Lib.hid hn
  obtain ⟨bb, hbb⟩ : ∃ b, b = belB t d i := ⟨_, rfl⟩
  rw [← hbb]
  have HBB := Lib.hid hbb
  clear hb he hr hE hn hbb
  go_enter Try.func45, Try.ntmps45
  go_upto_region 2 with (fail)
  have HB0 : Hid (Bits32 ((w.alloc (.cells (tabL t ev).toArray 44)).alloc (.cells z32b 113)) (w.heap.size + 1) (fun _ => false)) := by
    have := Bits32.new (w.alloc (.cells (tabL t ev).toArray 44))
    rw [show (w.alloc (.cells (tabL t ev).toArray 44)).heap.size = w.heap.size + 1 by simp] at this
    exact this
  have HMA : Hid (Mod nob w ((w.alloc (.cells (tabL t ev).toArray 44)).alloc (.cells z32b 113))) := HM0.out.alloc _
  have HT0 : Hid (TabB ((w.alloc (.cells (tabL t ev).toArray 44)).alloc (.cells z32b 113)) w.heap.size t ev) := HT.out.mod ((Mod.refl nob _).alloc _) (fun h => h)
  have HE0 : Hid (HoldsT ((w.alloc (.cells (tabL t ev).toArray 44)).alloc (.cells z32b 113)) t ev) := HE.out.still ((Mod.refl nob _).alloc _)
  have HEL : Hid (∀ k, k < 32 → (t k).ents ≠ [] → ∀ g, (ev k).ownBlock = some g → g < w.heap.size + 1) := fun k hk h0 g hg => by
    have := (HE.out k hk).lt h0 g hg
    simpa using this
  generalize (w.alloc (.cells (tabL t ev).toArray 44)).alloc (.cells z32b 113) = w1 at *
  obtain ⟨X, hX⟩ : ∃ X, X = w.heap.size := ⟨_, rfl⟩
  rw [← hX] at HB0 HT0 HEL ⊢
  have HXX := Lib.hid hX
  clear hX HT HE HM0 HBEL
  have HB1 : Hid (Below w.heap.size w w1) := nob_mod_below HMA.out
  by_cases hdi : d = i
  · have hb : belB t d i = true := by rw [hdi]; exact belB_true .refl
    have HB := Lib.hid (HBB.out.trans hb)
    clear hb HBB
    go_wp2_with fail
    go_ret
    exact ⟨by rw [HB.out]; rfl, HB1.out⟩
  · by_cases hout : d < 0 ∨ 31 < d
    · have hb : belB t d i = false := belB_false (fun h => hdi (reach_out hout h).symm)
      have HB := Lib.hid (HBB.out.trans hb)
      clear hb HBB
      rcases hout with hout | hout
      all_goals
        try have hout2 : ¬ d < 0 := by omega
        go_wp2_with fail
        go_ret
        exact ⟨by rw [HB.out]; rfl, HB1.out⟩
    · obtain ⟨dn, rfl⟩ := Int.eq_ofNat_of_zero_le (show 0 ≤ d by omega)
      have hd32 : dn < 32 := by omega
      have hd0 : ¬ (dn : Int) < 0 := by omega
      have hd31 : ¬ (31 : Int) < (dn : Int) := by omega
      have hdi2 : (dn : Int) < 32 := by omega
      clear hout
      have b0 := HB0.out.cell dn hd32
      have z0 := HB0.out.frozen dn
      have HD := Lib.hid hdi
      go_upto_region 7 with (fail)
      have HTD := Lib.hid (Told.start t hd32)
      have HBS : Hid (Bits32 (w1.setCell ⟨X + 1, dn, none⟩ (.bool true)) (X + 1) (fun k => decide (k = dn))) := by
        obtain ⟨cs, h1, h2, h3⟩ := HB0.out.set dn true
        refine ⟨cs, h1, h2, fun k hk => ?_⟩
        rw [h3 k hk]
        show some (Value.bool (if k = dn then true else false)) = some (Value.bool (decide (k = dn)))
        by_cases e : k = dn
        · rw [if_pos e, decide_eq_true e]
        · rw [if_neg e, decide_eq_false e]
      have HMS : Hid (Mod (fun q => q = X + 1) w1 (w1.setCell ⟨X + 1, dn, none⟩ (.bool true))) := (Mod.refl (fun q => q = X + 1) w1).setCell (a := ⟨X + 1, dn, none⟩) (.inl rfl) _
      generalize w1.setCell ⟨X + 1, dn, none⟩ (.bool true) = w2 at *
      clear b0 z0 HB0
      go_wp2_with fail
      go_loopg [8] 33 (fun gk iv wr => ∃ (r : Nat) (f : Nat → Bool), r + gk = 33 ∧ iv = .int .i64 (r : Nat) ∧ Hid (Told t dn r f) ∧ Hid (Bits32 wr (X + 1) f) ∧ Hid (Mod (fun q => q = X + 1) w1 wr))
      case atStart => exact ⟨0, _, by omega, rfl, HTD.out, HBS.out, HMS.out⟩
      case round =>
        obtain ⟨r, f, hr, rfl, HTO, HBI, HMW⟩ := hrel
        clear HTD HBS HMS
        by_cases hlt : r < 33
        · have hri : (r : Int) < 33 := by omega
          go_wp2_with fail
          go_loopg [9] 32 (fun gk iv wr => ∃ (k : Nat) (g : Nat → Bool), k + gk = 32 ∧ iv = .int .i64 (k : Nat) ∧ Hid (∀ m, m < 32 → g m = true → Reach t (dn : Int) (m : Int)) ∧ Hid (∀ m, m < 32 → f m = true → g m = true) ∧ Hid (∀ m, m < k → f m = true → ∀ e ∈ (t m).ents, g e.ino.toNat = true) ∧ Hid (Bits32 wr (X + 1) g) ∧ Hid (Mod (fun q => q = X + 1) w1 wr))
          case atStart => exact ⟨0, f, by omega, rfl, HTO.out.sound, (fun m _ h => h), (fun m h => by omega), HBI.out, HMW.out⟩
          case round =>
            obtain ⟨k, g, hk, rfl, HSG, HFG, HAG, HBG, HMG⟩ := hrel
            clear HBI HMW
            by_cases hltk : k < 32
            · have hki : (k : Int) < 32 := by omega
              have hk0 : (0 : Int) ≤ (k : Int) := Int.natCast_nonneg _
              obtain ⟨wq, hwq⟩ : ∃ y : World, y = wr := ⟨_, rfl⟩
              rw [← hwq] at HBG HMG ⊢
              clear hwq
              obtain ⟨L, hL⟩ : ∃ L, L = (t k).ents.length := ⟨_, rfl⟩
              have HL := Lib.hid hL
              have hL1000 : L ≤ 1000 := by rw [hL]; exact HNL.out k hltk
              obtain ⟨ao, c, hev, hc1, hc2, -, hcells⟩ := HE0.out k hltk
              rw [← hL] at hev hc1 hcells
              have HEV := Lib.hid hev
              have HCE : Hid (∀ wx, Mod (fun q => q = X + 1) w1 wx → wx.cell? ⟨X, k * 18 + 17, none⟩ = some (.slice ao L c) ∧ ∀ j, j < L → ∃ g o, ao = some ⟨g, o, none⟩ ∧ wx.cell? ⟨g, o + j * 2 + 1, none⟩ = some (.int .i64 ((t k).ents.getD j default).ino)) := fun wx hm => by
                have hx : ¬ (fun q => q = X + 1) X := by show ¬ X = X + 1; omega
                have h1 := (HT0.out.mod hm hx).evc k hltk
                rw [hev] at h1
                refine ⟨h1, fun j hj => ?_⟩
                obtain ⟨g1, o1, h2, -, h3⟩ := hcells j hj
                refine ⟨g1, o1, h2, hm.cell h3 (fun e => ?_)⟩
                have := HEL.out k hltk (fun h0 => by rw [hL, h0] at hj; simp at hj) g1 (by rw [hev, h2]; rfl)
                have e' : g1 = X + 1 := e
                omega
              clear hL hev hcells
              unfold maxLen at hc2
              cases hgk : g k with
              | false =>
                have HGK := Lib.hid hgk
                clear hgk
                go_wp2_with fail
                go_loopg [10] 1 (fun gk iv wr => iv = .int .i64 0 ∧ wq = wr)
                case atStart => exact ⟨rfl, rfl⟩
                case round =>
                  obtain ⟨rfl, rfl⟩ := hrel
                  have bk := HBG.out.cell k hltk
                  rw [HGK.out] at bk
                  have ec := (HCE.out wq HMG.out).1
                  have HNX : Hid (∀ m, m < k + 1 → f m = true → ∀ e ∈ (t m).ents, g e.ino.toNat = true) := fun m hm hf => by
                    by_cases e : m = k
                    · subst e
                      have := HFG.out m hltk hf
                      rw [HGK.out] at this
                      cases this
                    · exact HAG.out m (by omega) hf
                  rcases (show L = 0 ∨ 0 < L by omega) with h0 | h0
                  all_goals
                    try subst h0
                    try have h0i : (0 : Int) < (L : Int) := by omega
                    go_wp2_with fail
                    go_roundg (32 - k - 1)
                    case measure => omega
                    case rel => exact ⟨k + 1, g, by omega, by go_num, HSG.out, HFG.out, HNX.out, HBG.out, HMG.out⟩
              | true =>
                have HGK := Lib.hid hgk
                clear hgk
                go_wp2_with fail
                go_loopg [10] (L + 1) (fun gk iv wr => ∃ (j : Nat) (g' : Nat → Bool), j + gk = L + 1 ∧ j ≤ L ∧ iv = .int .i64 (j : Nat) ∧ Hid (∀ m, m < 32 → g' m = true → Reach t (dn : Int) (m : Int)) ∧ Hid (∀ m, m < 32 → f m = true → g' m = true) ∧ Hid (∀ m, m < k → f m = true → ∀ e ∈ (t m).ents, g' e.ino.toNat = true) ∧ Hid (g' k = true) ∧ Hid (∀ m, m < j → g' ((t k).ents.getD m default).ino.toNat = true) ∧ Hid (Bits32 wr (X + 1) g') ∧ Hid (Mod (fun q => q = X + 1) w1 wr))
                case atStart => exact ⟨0, g, by omega, by omega, rfl, HSG.out, HFG.out, HAG.out, HGK.out, (fun m h => by omega), HBG.out, HMG.out⟩
                case round =>
                  obtain ⟨j, g', hj, hjL, rfl, HSG2, HFG2, HAG2, HGK2, HJ2, HBG2, HMG2⟩ := hrel
                  clear HSG HFG HAG HGK HBG HMG
                  have bk := HBG2.out.cell k hltk
                  rw [HGK2.out] at bk
                  have ec := (HCE.out wr HMG2.out).1
                  by_cases hltj : j < L
                  · have hji : (j : Int) < (L : Int) := by omega
                    obtain ⟨g1, o1, rfl, e1⟩ := (HCE.out wr HMG2.out).2 j hltj
                    have hmem : (t k).ents.getD j default ∈ (t k).ents := by
                      rw [List.getD_eq_getElem?_getD, List.getElem?_eq_getElem (by rw [← HL.out]; exact hltj)]
                      exact List.getElem_mem _
                    obtain ⟨z0, z1⟩ := HEI.out k hltk _ hmem
                    have hrk : Reach t (dn : Int) ((t k).ents.getD j default).ino := by
                      refine .step (HSG2.out k hltk HGK2.out) ?_
                      unfold succL
                      rw [if_pos (by omega), Int.toNat_natCast]
                      exact List.mem_map_of_mem hmem
                    obtain ⟨m, hm⟩ := Int.eq_ofNat_of_zero_le z0
                    rw [hm] at e1 z1 hrk
                    have HM1 := Lib.hid hm
                    have hm32 : m < 32 := by omega
                    have hm0 : (0 : Int) ≤ (m : Int) := Int.natCast_nonneg _
                    have bm := HBG2.out.cell m hm32
                    have zm := HBG2.out.frozen m
                    have HSN : Hid (∀ q, q < 32 → (fun q => if q = m then true else g' q) q = true → Reach t (dn : Int) (q : Int)) := fun q hq h => by
                      by_cases e : q = m
                      · rw [e]; exact hrk
                      · simp only [if_neg e] at h
                        exact HSG2.out q hq h
                    have HUP : Hid (∀ q, g' q = true → (fun q => if q = m then true else g' q) q = true) := fun q h => by
                      by_cases e : q = m
                      · simp only [if_pos e]
                      · simp only [if_neg e]; exact h
                    have HBN := Lib.hid (HBG2.out.set m true)
                    have HMN : Hid (Mod (fun q => q = X + 1) w1 (wr.setCell ⟨X + 1, m, none⟩ (.bool true))) := HMG2.out.setCell (a := ⟨X + 1, m, none⟩) (.inl rfl) _
                    clear hmem hrk hm z0
                    go_wp2_with fail
                    go_roundg (gk - 1)
                    case measure => omega
                    case rel =>
                      refine ⟨j + 1, (fun q => if q = m then true else g' q), by omega, by omega, by go_num, HSN.out, (fun q hq h => HUP.out q (HFG2.out q hq h)), (fun q hq h e he => HUP.out _ (HAG2.out q hq h e he)), HUP.out _ HGK2.out, (fun q hq => ?_), HBN.out, HMN.out⟩
                      by_cases e : q = j
                      · subst e
                        rw [HM1.out]
                        show (if _ then true else _) = true
                        rw [if_pos (by simp)]
                      · exact HUP.out _ (HJ2.out q (by omega))
                  · obtain rfl : j = L := by omega
                    have hji : ¬ (j : Int) < (j : Int) := by omega
                    have HNX : Hid (∀ m, m < k + 1 → f m = true → ∀ e ∈ (t m).ents, g' e.ino.toNat = true) := fun m hm hf e he => by
                      by_cases em : m = k
                      · subst em
                        obtain ⟨q, hq, rfl⟩ := List.getElem_of_mem he
                        have := HJ2.out q (by rw [HL.out]; exact hq)
                        rw [List.getD_eq_getElem?_getD, List.getElem?_eq_getElem hq] at this
                        exact this
                      · exact HAG2.out m (by omega) hf e he
                    go_wp2_with fail
                    go_roundg (32 - k - 1)
                    case measure => omega
                    case rel => exact ⟨k + 1, g', by omega, by go_num, HSG2.out, HFG2.out, HNX.out, HBG2.out, HMG2.out⟩
            · have hki : ¬ (k : Int) < 32 := by omega
              have HNX : Hid (Told t dn (r + 1) g) := HTO.out.round HEI.out hd32 HSG.out HFG.out (fun m hm hf => HAG.out m (by omega) hf)
              go_wp2_with fail
              go_roundg (33 - r - 1)
              case measure => omega
              case rel => exact ⟨r + 1, g, by omega, by go_num, HNX.out, HBG.out, HMG.out⟩
        · obtain rfl : r = 33 := by omega
          have hri : ¬ ((33 : Nat) : Int) < 33 := by omega
          have HBE : Hid (Below w.heap.size w wr) := (HB1.out).trans (HMW.out.below (show w.heap.size ≤ w1.heap.size from HMA.out.size) (fun b h => by have := HXX.out; omega))
          by_cases hi : 0 ≤ i ∧ i < 32
          · obtain ⟨n, rfl⟩ := Int.eq_ofNat_of_zero_le hi.1
            have hn32 : n < 32 := by omega
            have hni : (n : Int) < 32 := hi.2
            have hn0 : (0 : Int) ≤ (n : Int) := hi.1
            have c0 := HBI.out.cell n hn32
            rw [HTO.out.done hn32, ← HBB.out] at c0
            clear HBB
            go_wp2_with fail
            go_ret
            exact ⟨rfl, HBE.out⟩
          · have hb : belB t (dn : Int) i = false := belB_false (fun h => by
              rcases reach_in HEI.out h with h | h
              · exact HD.out h.symm
              · exact hi h)
            have HB := Lib.hid (HBB.out.trans hb)
            clear hb HBB
            rcases (show i < 0 ∨ (0 ≤ i ∧ ¬ i < 32) by omega) with hi2 | ⟨hi1, hi2⟩
            all_goals
              try have hi3 : ¬ 0 ≤ i := by omega
              go_wp2_with fail
              go_ret
              exact ⟨by rw [HB.out]; rfl, HBE.out⟩
end Go.Proofs.Ytlopdbhjdijlmaa
