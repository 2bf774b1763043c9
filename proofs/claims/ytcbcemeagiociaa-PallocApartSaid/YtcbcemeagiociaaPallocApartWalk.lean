import Derived.Test.YtcbcemeagiociaaPallocLaw
namespace Go.Proofs.Ytcbcemeagiociaa
open Go.ChangeShapes Go.WideShapes Go.ChangeAt Go.RowKit
set_option linter.unusedSimpArgs false
set_option linter.unusedVariables false

/-- What is known behind a Take. -/
structure TookN (S : Sh) (n : Nat) (T : Sh) (xs : List Nat) (E : Int) : Prop where
  err : (n ≤ freeN S ∧ E = 0 ∧ xs.length = n) ∨ (freeN S < n ∧ E = 7 ∧ xs.length = 0)
  sum : xs.length + freeN T = freeN S
  new : ∀ x ∈ xs, 1 ≤ x ∧ x < 256 ∧ bitB S x = false
  bits : ∀ c, c < 256 → bitB T c = (bitB S c || decide (c ∈ xs))
  was : T.was.length ≤ S.was.length + 2295

theorem take_any {w : World} {p : Nat} {D : Nat → Prop} {S : Sh} (h : SheetAt w p D S) (hlen : S.was.length + 2400 < 1099511627776) (n : Nat) :
    Calls Try.prog 49 #[.pointer (some ⟨p, 0, none⟩), .int .i64 n] w fun e w' => ∃ v xs T E, e = .returned (.tuple #[v, .int .i64 E]) ∧ Taken w p D w' T v xs ∧ TookN S n T xs E := by
  by_cases hn : n ≤ freeN S
  · have hl := takeFrom_law 255 S 1 n (by omega) (by omega) (by rw [← freeN_from]; exact hn)
    refine (take_ok h hlen n hn).mono ?_
    rintro e w' ⟨v, rfl, hT⟩
    obtain ⟨h1, h2, h3, h4, h5, h6⟩ := hl
    refine ⟨v, _, _, 0, rfl, hT, .inl ⟨hn, rfl, h1⟩, ?_, ?_, h3, by omega⟩
    · rw [freeN_from, freeN_from, h1]; omega
    · intro x hx
      have := h2 x hx
      exact ⟨this.1, by omega, this.2.2⟩
  · refine (take_no h n (by omega)).mono ?_
    rintro e w' ⟨rfl, rfl⟩
    exact ⟨_, [], S, 7, rfl, Taken.start h, .inr ⟨by omega, rfl, rfl⟩, by simp, by simp, by simp, by omega⟩

theorem getD_mem' (l : List Nat) (i : Nat) (h : i < l.length) : l.getD i 0 ∈ l := by
  rw [List.getD_eq_getElem?_getD, List.getElem?_eq_getElem h]
  exact List.getElem_mem h

theorem nums_at {w : World} {base : Nat} {ao : Option Addr} {m cap : Nat} {xs : List Nat} (h : w.ownsRow base 3 1 (.slice ao m cap) m (nums xs)) (hm : m = xs.length) (i : Nat) (hi : i < m) :
    ∃ g, ao = some ⟨g, 0, none⟩ ∧ w.cell? ⟨g, i, none⟩ = some (.int .i64 ((xs.getD i 0 : Nat) : Int)) := by
  obtain ⟨g, cap', e, _, _, _, _⟩ := own_some h (by omega)
  simp only [Value.slice.injEq] at e
  obtain ⟨rfl, -, rfl⟩ := e
  refine ⟨g, rfl, ?_⟩
  rw [h.cellAt i (by omega)]
  simp [nums, List.getD_eq_getElem?_getD, show i < xs.length by omega]

set_option maxRecDepth 20000 in
set_option maxHeartbeats 4000000 in
theorem law_apart (a : Nat → Int) (ha : ∀ i, 0 ≤ a i ∧ a i < 18446744073709551616) (x y : Nat) (hx : x < 256) (hy : y < 256) (w : World) :
    Calls Try.prog 10 #[.agg #[.int .u64 (a 0), .int .u64 (a 1), .int .u64 (a 2), .int .u64 (a 3)], .int .u8 x, .int .u8 y] w fun e w' => e = .returned (.bool true) ∧ Below w.heap.size w w' := by
  have HSH := Lib.hid (fun w : World => sheet5_any (w := w) a ha)
  have hw0 : (Sh.new (row5 (w5 a))).was.length = 0 := rfl
  generalize Sh.new (row5 (w5 a)) = S at HSH hw0
  clear ha
  go_enter Try.func10, Try.ntmps10
  go_wp2_with fail
  refine (awake5 _).mono ?_
  rintro e w1 ⟨rfl, hb1⟩
  have hbox := boxed_below (boxed_new w _ _ _) hb1 (by simp)
  have c0 : w1.cell? ⟨w.heap.size, 0, none⟩ = some (.int .u64 (a 0)) := hbox 0
  have c1 : w1.cell? ⟨w.heap.size, 1, none⟩ = some (.int .u64 (a 1)) := hbox 1
  have c2 : w1.cell? ⟨w.heap.size, 2, none⟩ = some (.int .u64 (a 2)) := hbox 2
  have c3 : w1.cell? ⟨w.heap.size, 3, none⟩ = some (.int .u64 (a 3)) := hbox 3
  have HB1 := Lib.hid (((Below.refl w.heap.size w).alloc (Nat.le_refl _) _).trans (hb1.mono (by simp)))
  clear hb1 hbox
  go_wp2_with fail
  refine (HSH.out _).mono ?_
  rintro e w2 ⟨p, rfl, hS, hb2⟩
  have HS := Lib.hid hS
  have HB2 := Lib.hid (HB1.out.trans (hb2.mono HB1.out.size))
  have HF := Lib.hid (free_any hS)
  obtain ⟨f0, hf0⟩ : ∃ f, f = freeN S := ⟨_, rfl⟩
  rw [← hf0] at HF
  have hfle : f0 ≤ 256 := hf0 ▸ freeTo_le S 256
  have HF0 := Lib.hid hf0
  clear hS hb2 hf0
  go_wp2_with (go_at_call 48; refine HF.out.mono ?_; rintro e w' ⟨rfl, rfl⟩)
  refine (take_any HS.out (by omega) x).mono ?_
  rintro e w3 ⟨v1, xs, T1, E1, rfl, hT1, hk1⟩
  obtain ⟨D1, h1, h2, h3, h4, h5⟩ := hT1
  have HD1 := Lib.hid h4
  have hwas1 := hk1.was
  have HTK2 := Lib.hid (take_any h1 (by omega) y)
  have HB3 : Hid (Below w.heap.size w w3) := by
    have hb := HB2.out
    exact hb.trans (h5.below hb.size (fun b h => by rcases h with h | h; exact h.elim; have := HB1.out.size; exact Nat.le_trans (by omega) h.1))
  obtain ⟨m1, hm1⟩ : ∃ m, m = xs.length := ⟨_, rfl⟩
  rw [← hm1] at h2
  have HX := Lib.hid h2
  have HN := Lib.hid h3
  obtain ⟨ao1, cap1, rfl, -, -, -⟩ := own_shape h2
  have HM1 := Lib.hid hm1
  have HK1 := Lib.hid hk1
  clear h1 h2 h3 h4 h5 hk1 hm1 hwas1
  go_wp2_with fail
  refine HTK2.out.mono ?_
  rintro e w4 ⟨v2, ys, T2, E2, rfl, hT2, hk2⟩
  obtain ⟨D2, k1, k2, k3, k4, k5⟩ := hT2
  have HF2 := Lib.hid (free_any k1)
  have HB4 : Hid (Below w.heap.size w w4) := by
    have hb := HB3.out
    exact hb.trans (k5.below hb.size (fun b h => by
      rcases HD1.out b h with h | h
      · rcases h with h | h
        · exact h.elim
        · have := HB1.out.size; exact Nat.le_trans (by omega) h.1
      · have := HB2.out.size; exact Nat.le_trans this h.1))
  have HX4 := Lib.hid (k5.own HX.out HN.out)
  obtain ⟨m2, hm2⟩ : ∃ m, m = ys.length := ⟨_, rfl⟩
  rw [← hm2] at k2
  have HY4 := Lib.hid k2
  obtain ⟨ao2, cap2, rfl, -, -, -⟩ := own_shape k2
  have HM2 := Lib.hid hm2
  have HK2 := Lib.hid hk2
  clear k1 k2 k3 k4 k5 hk2 hm2
  obtain ⟨f2, hf2⟩ : ∃ f, f = freeN T2 := ⟨_, rfl⟩
  rw [← hf2] at HF2
  obtain ⟨f1, hf1⟩ : ∃ f, f = freeN T1 := ⟨_, rfl⟩
  have s1 := HK1.out.sum
  have s2 := HK2.out.sum
  have r1 := HK1.out.err
  have r2 := HK2.out.err
  rw [← hf1, ← HF0.out, ← HM1.out] at s1
  rw [← hf2, ← hf1, ← HM2.out] at s2
  rw [← HF0.out, ← HM1.out] at r1
  rw [← hf1, ← HM2.out] at r2
  clear hf1 hf2
  have d3 : ((m1 : Int) + (m2 : Int) + (f2 : Int) != (f0 : Int)) = false := by simp; omega
  have hm1 : m1 ≤ 256 := by omega
  have hm2 : m2 ≤ 256 := by omega
  have hf2l : f2 ≤ 256 := by omega
  have HS1 := Lib.hid s1
  have HS2 := Lib.hid s2
  have HCX : Hid (∀ i, i < m1 → ∃ g, ao1 = some ⟨g, 0, none⟩ ∧ w4.cell? ⟨g, i, none⟩ = some (.int .i64 ((xs.getD i 0 : Nat) : Int))) := nums_at HX4.out HM1.out
  have HCY : Hid (∀ i, i < m2 → ∃ g, ao2 = some ⟨g, 0, none⟩ ∧ w4.cell? ⟨g, i, none⟩ = some (.int .i64 ((ys.getD i 0 : Nat) : Int))) := nums_at HY4.out HM2.out
  have HNE : Hid (∀ i j, i < m1 → j < m2 → xs.getD i 0 ≠ ys.getD j 0) := by
    intro i j hi hj
    have e1 := HM1.out
    have e2 := HM2.out
    have hxm : xs.getD i 0 ∈ xs := getD_mem' _ _ (by omega)
    have hym : ys.getD j 0 ∈ ys := getD_mem' _ _ (by omega)
    have h1 := HK1.out.bits _ (HK1.out.new _ hxm).2.1
    have h2 := (HK2.out.new _ hym).2.2
    intro e'
    rw [← e', h1] at h2
    rw [decide_eq_true hxm, Bool.or_true] at h2
    cases h2
  rcases r1 with ⟨q1, rfl, q1'⟩ | ⟨q1, rfl, q1'⟩ <;> rcases r2 with ⟨q2, rfl, q2'⟩ | ⟨q2, rfl, q2'⟩
  all_goals
    first
      | have d1 : decide ((x : Int) ≤ (f0 : Int)) = true := decide_eq_true (by omega)
      | have d1 : decide ((x : Int) ≤ (f0 : Int)) = false := decide_eq_false (by omega)
    first
      | have d1n : decide (x ≤ f0) = true := decide_eq_true (by omega)
      | have d1n : decide (x ≤ f0) = false := decide_eq_false (by omega)
    first
      | have d2 : decide ((y : Int) ≤ (f0 : Int) - (m1 : Int)) = true := decide_eq_true (by omega)
      | have d2 : decide ((y : Int) ≤ (f0 : Int) - (m1 : Int)) = false := decide_eq_false (by omega)
    clear q1 q1' q2 q2' s1 s2
    go_wp2_with (go_at_call 48; refine HF2.out.mono ?_; rintro e w' ⟨rfl, rfl⟩)
    go_loopg [13] m1 (fun g i wr => ∃ k : Nat, k + g = m1 ∧ i = .int .i64 k ∧ (∃ n, wr = w4.drewN n))
    case atStart => exact ⟨0, by omega, rfl, 0, rfl⟩
    case round =>
      obtain ⟨i, hi, rfl, nd, rfl⟩ := hrel
      by_cases hlt : i < m1
      · obtain ⟨g1, rfl, hcx⟩ := HCX.out i hlt
        have HCX1 := Lib.hid hcx
        clear hcx
        go_wp2
        go_loopg [14] m2 (fun g i wr => ∃ k : Nat, k + g = m2 ∧ i = .int .i64 k ∧ (∃ n, wr = w4.drewN n))
        case atStart => exact ⟨0, by omega, rfl, nd, rfl⟩
        case round =>
          obtain ⟨j, hj, rfl, nd2, rfl⟩ := hrel
          by_cases hlt2 : j < m2
          · obtain ⟨g2, rfl, hcy⟩ := HCY.out j hlt2
            have hne := HNE.out i j hlt hlt2
            have hcx' := HCX1.out
            generalize xs.getD i 0 = xi at hne hcx'
            generalize ys.getD j 0 = yj at hne hcy
            have hne1 : ((xi : Int) == (yj : Int)) = false := beq_eq_false_iff_ne.2 (by omega)
            go_wp2
            go_quiet (fail)
            go_wp2
            go_roundg (m2 - (j + 1))
            case measure => omega
            case rel => exact ⟨j + 1, by omega, (by simp), _, rfl⟩
          · go_wp2
            go_roundg (m1 - (i + 1))
            case measure => omega
            case rel => exact ⟨i + 1, by omega, (by simp), _, rfl⟩
      · go_wp2
        go_ret
        exact ⟨rfl, below_drewN HB4.out _⟩

def four (x0 x1 x2 x3 : Int) : Nat → Int
  | 0 => x0
  | 1 => x1
  | 2 => x2
  | _ => x3

theorem four_all {p : Int → Prop} {x0 x1 x2 x3 : Int} (h : ∀ z ∈ [x0, x1, x2, x3], p z) (i : Nat) : p (four x0 x1 x2 x3 i) := by
  match i with
  | 0 => exact h _ (by simp [four])
  | 1 => exact h _ (by simp [four])
  | 2 => exact h _ (by simp [four])
  | _ + 3 => exact h _ (by simp [four])

theorem law_apart4 (x0 x1 x2 x3 : Int) (h : ∀ z ∈ [x0, x1, x2, x3], 0 ≤ z ∧ z < 18446744073709551616) (x y : Nat) (hx : x < 256) (hy : y < 256) (w : World) :
    Calls Try.prog 10 #[.agg #[.int .u64 x0, .int .u64 x1, .int .u64 x2, .int .u64 x3], .int .u8 x, .int .u8 y] w fun e w' => e = .returned (.bool true) ∧ Below w.heap.size w w' :=
  law_apart (four x0 x1 x2 x3) (four_all h) x y hx hy w
end Go.Proofs.Ytcbcemeagiociaa
