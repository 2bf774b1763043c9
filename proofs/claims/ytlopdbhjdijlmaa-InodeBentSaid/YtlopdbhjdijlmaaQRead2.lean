/-
  What fmt1.apart and fmt1.names answer: contracts. No condition but the bounds that are typed.
-/
import Derived.Test.YtlopdbhjdijlmaaQShStep
import Derived.Test.YtlopdbhjdijlmaaQRightM
import Derived.Test.YtlopdbhjdijlmaaQPackM

namespace Go.Proofs.Ytlopdbhjdijlmaa
open Go.ChangeShapes Go.WideShapes Go.ChangeAt Go.RowKit
set_option linter.unusedSimpArgs false
set_option linter.unusedVariables false

/-- None is there twice. -/
def ApartTo (l : List Nat) (m : Nat) : Prop := ∀ i j, i < j → j < m → l.getD i 0 ≠ l.getD j 0
open Classical in
noncomputable def apartB (l : List Nat) : Bool := decide (ApartTo l l.length)
open Classical in
theorem apartB_iff (l : List Nat) : apartB l = true ↔ ApartTo l l.length := by unfold apartB; exact decide_eq_true_iff
theorem apartB_false {l : List Nat} (h : ¬ ApartTo l l.length) : apartB l = false := by
  cases hb : apartB l with
  | false => rfl
  | true => exact absurd ((apartB_iff l).1 hb) h

/-- How often a number is there among the first. -/
def cntN (l : List Nat) (b : Nat) : Nat → Nat
  | 0 => 0
  | k + 1 => cntN l b k + if l.getD k 0 = b then 1 else 0
theorem cntN_le (l : List Nat) (b k : Nat) : cntN l b k ≤ k := by
  induction k with
  | zero => simp [cntN]
  | succ k ih => simp only [cntN]; split <;> omega
theorem cntN_pos (l : List Nat) (b k : Nat) : 0 < cntN l b k ↔ ∃ j, j < k ∧ l.getD j 0 = b := by
  induction k with
  | zero => simp [cntN]
  | succ k ih =>
    simp only [cntN]
    constructor
    · intro h
      by_cases e : l.getD k 0 = b
      · exact ⟨k, by omega, e⟩
      · rw [if_neg e] at h
        obtain ⟨j, h1, h2⟩ := ih.1 h
        exact ⟨j, by omega, h2⟩
    · rintro ⟨j, h1, h2⟩
      by_cases e : j = k
      · subst e
        rw [if_pos h2]
        omega
      · have := ih.2 ⟨j, by omega, h2⟩
        omega
theorem cntN_succ (l : List Nat) (k b : Nat) (hb : l.getD k 0 = b) : (fun i : Nat => if i = b then cntN l b k + 1 else cntN l i k) = fun i : Nat => cntN l i (k + 1) := by
  funext i
  simp only [cntN]
  by_cases e : i = b
  · subst e
    rw [if_pos rfl, if_pos hb]
  · rw [if_neg e, if_neg (fun h => e (by rw [hb] at h; exact h.symm))]
    rfl

set_option maxRecDepth 20000 in
set_option maxHeartbeats 1000000 in
theorem apart_any {w : World} {v : Value} {l : List Nat} (hv : HoldsN w v l) (hl : l.length ≤ 1000) (hb : ∀ b ∈ l, b < 256) :
    Calls Try.prog 97 #[v] w fun e w' => e = .returned (.bool (apartB l)) ∧ Below w.heap.size w w' := by
  have HV := Lib.hid hv
  have HC0 := Lib.hid (Counts.new w)
  obtain ⟨ao, c, rfl, h1, h2, -, -⟩ := hv
  obtain ⟨L, hL⟩ : ∃ L, L = l.length := ⟨_, rfl⟩
  rw [← hL] at h1 HV hl ⊢
  have HL := Lib.hid hL
  have hbk : ∀ k, k < L → l.getD k 0 < 256 := by
    intro k hk
    rw [List.getD_eq_getElem?_getD, List.getElem?_eq_getElem (by rw [← hL]; exact hk)]
    exact hb _ (List.getElem_mem _)
  have HB := Lib.hid hbk
  unfold maxLen at h2
  have HBEL : Hid (Below w.heap.size w (w.alloc (.cells Try.zeroCells140 140))) := (Below.refl _ _).alloc (Nat.le_refl _) _
  clear hb hL hbk
  go_enter Try.func97, Try.ntmps97
  go_wp2_with fail
  generalize w.alloc (.cells Try.zeroCells140 140) = w0 at *
  go_loopg [5, 8] L (fun gk _ iv wr => ∃ k : Nat, k + gk = L ∧ iv = .int .i64 k ∧ Hid (ApartTo l k) ∧ Hid (Counts wr w.heap.size (fun b => cntN l b k)) ∧ Hid (Mod (fun b => b = w.heap.size) w0 wr))
  case atStart => exact ⟨0, by omega, rfl, (fun i j h1 h2 => by omega), HC0.out, Mod.refl _ _⟩
  case round =>
    obtain ⟨k, hk, rfl, HAP, HCN, HMO⟩ := hrel
    have hbel := HBEL.out.trans (HMO.out.below HBEL.out.size (fun b hb => by omega))
    have HBE := Lib.hid hbel
    by_cases hlt : k < L
    · have hli : (k : Int) < (L : Int) := by omega
      have hk0 : (0 : Int) ≤ (k : Int) := Int.natCast_nonneg _
      obtain ⟨ao', c', e, -, -, -, hcell⟩ := HV.out.below hbel
      simp only [Value.slice.injEq] at e
      obtain ⟨rfl, -, rfl⟩ := e
      obtain ⟨g, o, rfl, d0⟩ := hcell k (by rw [← HL.out]; exact hlt)
      have hx := HB.out k hlt
      obtain ⟨x, hxx⟩ : ∃ x, x = l.getD k 0 := ⟨_, rfl⟩
      rw [← hxx] at d0 hx
      have HX := Lib.hid hxx
      obtain ⟨d1, f1⟩ := HCN.out.cell hx
      obtain ⟨ct, hct⟩ : ∃ ct, ct = cntN l x k := ⟨_, rfl⟩
      rw [← hct] at d1
      have hcl : ct ≤ 1000 := by rw [hct]; have := cntN_le l x k; omega
      have HCT := Lib.hid hct
      have HCN2 : Hid (Counts (wr.setCell ⟨w.heap.size, x, none⟩ (.int .i64 ((ct : Int) + 1))) w.heap.size (fun i => cntN l i (k + 1))) := by
        have h := HCN.out.set x (ct + 1)
        rw [hct, cntN_succ l k x hxx.symm] at h
        rw [hct]
        exact h
      have HMO2 : Hid (Mod (fun b => b = w.heap.size) w0 (wr.setCell ⟨w.heap.size, x, none⟩ (.int .i64 ((ct : Int) + 1)))) := HMO.out.setCell (a := ⟨w.heap.size, x, none⟩) (.inl rfl) _
      have HBE2 : Hid (Below w.heap.size w (wr.setCell ⟨w.heap.size, x, none⟩ (.int .i64 ((ct : Int) + 1)))) := HBEL.out.trans (HMO2.out.below HBEL.out.size (fun b hb => by omega))
      have hxi : (x : Int) < 256 := by omega
      have hx0 : (0 : Int) ≤ (x : Int) := Int.natCast_nonneg _
      clear hcell hxx hct hbel
      rcases Nat.eq_zero_or_pos ct with hc0 | hc0
      · subst hc0
        go_wp2_with fail
        go_roundg (gk - 1)
        case measure => omega
        case rel =>
          refine ⟨k + 1, by omega, by go_num, fun i j h1 h2 => ?_, HCN2.out, HMO2.out⟩
          by_cases e : j = k
          · subst e
            intro he
            have := (cntN_pos l x j).2 ⟨i, h1, by rw [he]; exact HX.out.symm⟩
            have := HCT.out
            omega
          · exact HAP.out i j h1 (by omega)
      · have hc1 : (1 : Int) < (ct : Int) + 1 := by omega
        have HC1 := Lib.hid hc0
        have HLT := Lib.hid hlt
        go_wp2_with fail
        go_ret
        refine ⟨ret_b (apartB_false (fun h => ?_)).symm, HBE2.out⟩
        have h0 := HC1.out
        rw [HCT.out] at h0
        obtain ⟨j, h1, h2⟩ := (cntN_pos l x k).1 h0
        rw [← HL.out] at h
        exact h j k h1 HLT.out (by rw [h2]; exact HX.out)
    · have hge : ¬ (k : Int) < (L : Int) := by omega
      obtain rfl : k = L := by omega
      go_wp2_with fail
      go_ret
      exact ⟨ret_b ((apartB_iff l).2 (by rw [← HL.out]; exact HAP.out)).symm, HBE.out⟩
end Go.Proofs.Ytlopdbhjdijlmaa
