/-
  Whether pairs may be: contracts. No condition but the bounds that are typed.
-/
import Derived.Test.YtfpnmphmngdkdaaPlog2
namespace Go.Proofs.Ytfpnmphmngdkdaa
open Go.ChangeShapes Go.WideShapes Go.ChangeAt Go.RowKit Go.Maps
set_option linter.unusedSimpArgs false
set_option linter.unusedVariables false

theorem plog_place (i : Int) (w : World) : Calls Try.prog 120 #[.int .i64 i] w fun e w' => e = .returned (.bool (placeB i)) ∧ w = w' := by
  unfold placeB
  rcases (show i < 0 ∨ (0 ≤ i ∧ 3128 ≤ i) ∨ (0 ≤ i ∧ i < 3128 ∧ i < 8) ∨ (0 ≤ i ∧ i < 3128 ∧ 8 ≤ i ∧ i < 816) ∨ (0 ≤ i ∧ i < 3128 ∧ 8 ≤ i ∧ 816 ≤ i) by omega) with h0 | ⟨h0, h1⟩ | ⟨h0, h1, h2⟩ | ⟨h0, h1, h2, h3⟩ | ⟨h0, h1, h2, h3⟩
  · have hd : decide (0 ≤ i ∧ i < 3128 ∧ (i < 8 ∨ 816 ≤ i)) = false := by simp; omega
    rw [hd]
    have hdd : decide (0 ≤ i) = false := by simpa using h0
    clear hd
    go_enter Try.func120, Try.ntmps120
    go_wp2
    go_ret
    exact ⟨rfl, rfl⟩
  · have hd : decide (0 ≤ i ∧ i < 3128 ∧ (i < 8 ∨ 816 ≤ i)) = false := by simp; omega
    rw [hd]
    clear hd
    go_enter Try.func120, Try.ntmps120
    go_wp2
    go_ret
    exact ⟨rfl, rfl⟩
  · have hd : decide (0 ≤ i ∧ i < 3128 ∧ (i < 8 ∨ 816 ≤ i)) = true := by simp; omega
    rw [hd]
    clear hd
    go_enter Try.func120, Try.ntmps120
    go_wp2
    go_ret
    exact ⟨rfl, rfl⟩
  · have hd : decide (0 ≤ i ∧ i < 3128 ∧ (i < 8 ∨ 816 ≤ i)) = false := by simp; omega
    rw [hd]
    clear hd
    go_enter Try.func120, Try.ntmps120
    go_wp2
    go_ret
    refine ⟨?_, rfl⟩
    simp
    omega
  · have hd : decide (0 ≤ i ∧ i < 3128 ∧ (i < 8 ∨ 816 ≤ i)) = true := by simp; omega
    rw [hd]
    clear hd
    go_enter Try.func120, Try.ntmps120
    go_wp2
    go_ret
    exact ⟨rfl, rfl⟩

theorem plog_good1 (a b : Int) (w : World) : Calls Try.prog 119 #[.agg #[.int .i64 a, .int .u64 b]] w fun e w' => e = .returned (.bool (!placeB a)) ∧ Below w.heap.size w w' := by
  have HP := fun w => Lib.hid (plog_place a w)
  go_enter Try.func119, Try.ntmps119
  go_wp2_with fail
  refine (HP _).out.mono ?_
  rintro e w' ⟨rfl, rfl⟩
  go_wp2
  go_ret
  exact ⟨rfl, (Below.refl _ _).alloc (Nat.le_refl _) _⟩

/-- The first that may not be, from one on; -1: there is none. -/
def badFrom (ps : List (Int × Int)) : Nat → Nat → Int
  | _, 0 => -1
  | k, f + 1 => if placeB (ps.getD k (0, 0)).1 then badFrom ps (k + 1) f else (k : Int)

theorem badFrom_ge (ps : List (Int × Int)) (f : Nat) : ∀ k, k + f = ps.length → decide (0 ≤ badFrom ps k f) = (ps.drop k).any fun x => !placeB x.1 := by
  induction f with
  | zero =>
    intro k hk
    rw [List.drop_of_length_le (by omega)]
    rfl
  | succ f ih =>
    intro k hk
    rw [drop_at (by omega), List.any_cons]
    by_cases h : placeB (ps.getD k (0, 0)).1 = true
    · rw [show badFrom ps k (f + 1) = badFrom ps (k + 1) f from if_pos h, ih (k + 1) (by omega), h]; rfl
    · rw [show badFrom ps k (f + 1) = (k : Int) from if_neg h]; simp only [Bool.not_eq_true] at h; rw [h]; simp

set_option maxRecDepth 20000 in
set_option maxHeartbeats 1000000 in
theorem plog_index {w : World} {lv : Value} {ps : List (Int × Int)} (hl : HoldsL w lv ps) (hb : ps.length < 1099511627776) :
    Calls Try.prog 140 #[lv, .func (.func 119) #[] #[]] w fun e w' => e = .returned (.int .i64 (badFrom ps 0 ps.length)) ∧ Below w.heap.size w w' := by
  have HL := Lib.hid hl
  obtain ⟨ao, c, rfl, hlc, hcm, -⟩ := hl
  obtain ⟨n, hn⟩ : ∃ n, n = ps.length := ⟨_, rfl⟩
  rw [← hn] at HL hb hlc ⊢
  have HN := Lib.hid hn
  have hcell : Hid (∀ wr, Below w.heap.size w wr → ∀ j, j < n → ∃ g o, ao = some ⟨g, o, none⟩ ∧ wr.cell? ⟨g, o + j * 2, none⟩ = some (.int .i64 (ps.getD j (0, 0)).1) ∧ wr.cell? ⟨g, o + j * 2 + 1, none⟩ = some (.int .u64 (ps.getD j (0, 0)).2)) := by
    intro wr hm j hj
    obtain ⟨ao', c', e, -, -, h3⟩ := HL.out.below hm
    rw [← hn] at e h3
    simp only [Value.slice.injEq] at e
    obtain ⟨rfl, -, rfl⟩ := e
    exact h3 j hj
  unfold maxLen at hcm
  clear hn
  go_enter Try.func140, Try.ntmps140
  go_wp2
  go_loopg [8] n (fun gk i wr => ∃ (k : Nat), k + gk = n ∧ i = .int .i64 k ∧ Hid (badFrom ps 0 n = badFrom ps k gk) ∧ Hid (Below w.heap.size w wr))
  case atStart => exact ⟨0, by omega, rfl, rfl, Below.refl _ _⟩
  case round =>
    obtain ⟨k, hk, rfl, HE, HB⟩ := hrel
    by_cases hlt : k < n
    · obtain ⟨g, o, rfl, e1, e2⟩ := hcell.out wr HB.out k hlt
      obtain ⟨gm, hgm⟩ : ∃ gm, gk = gm + 1 := ⟨gk - 1, by omega⟩
      have hE := HE.out
      rw [hgm] at hE
      simp only [badFrom] at hE
      generalize ps.getD k (0, 0) = x at e1 e2 hE
      obtain ⟨at_, wd⟩ := x
      simp only at e1 e2 hE
      have HG1 := fun w => Lib.hid (plog_good1 at_ wd w)
      cases hp : placeB at_ with
      | true =>
        rw [hp] at hE HG1
        have HE2 := Lib.hid hE
        clear hE hp
        go_wp2_with fail
        refine (HG1 _).out.mono ?_
        rintro e w2 ⟨rfl, hb2⟩
        have HB2 : Hid (Below w.heap.size w w2) := HB.out.trans (hb2.mono HB.out.size)
        clear hb2
        go_wp2
        go_roundg gm
        case measure => omega
        case rel => exact ⟨k + 1, by omega, by go_num, HE2.out, HB2.out⟩
      | false =>
        rw [hp] at hE HG1
        have HE2 := Lib.hid hE
        clear hE hp
        go_wp2_with fail
        refine (HG1 _).out.mono ?_
        rintro e w2 ⟨rfl, hb2⟩
        have HB2 : Hid (Below w.heap.size w w2) := HB.out.trans (hb2.mono HB.out.size)
        clear hb2
        go_wp2
        go_ret
        rw [HE2.out]
        exact ⟨rfl, HB2.out⟩
    · obtain rfl : k = n := by omega
      obtain rfl : gk = 0 := by omega
      go_wp2
      go_ret
      rw [HE.out]
      exact ⟨rfl, HB.out⟩

theorem plog_contains {w : World} {lv : Value} {ps : List (Int × Int)} (hl : HoldsL w lv ps) (hb : ps.length < 1099511627776) :
    Calls Try.prog 118 #[lv, .func (.func 119) #[] #[]] w fun e w' => e = .returned (.bool (ps.any fun x => !placeB x.1)) ∧ Below w.heap.size w w' := by
  have HI := Lib.hid (plog_index hl hb)
  have HG := Lib.hid (badFrom_ge ps ps.length 0 (by omega))
  obtain ⟨ao, c, rfl, -, -, -⟩ := hl
  generalize hx : badFrom ps 0 ps.length = x at HI HG
  clear hx
  go_enter Try.func118, Try.ntmps118
  go_wp2_with fail
  refine HI.out.mono ?_
  rintro e w1 ⟨rfl, hb1⟩
  have HB := Lib.hid hb1
  clear hb1
  go_wp2
  go_ret
  have := HG.out
  rw [List.drop_zero] at this
  rw [← this]
  exact ⟨rfl, HB.out⟩

set_option maxRecDepth 20000 in
theorem plog_good {w : World} {lv : Value} {ps : List (Int × Int)} (hl : HoldsL w lv ps) (hb : ps.length < 1099511627776) :
    Calls Try.prog 72 #[lv] w fun e w' => e = .returned (.bool (goodP ps)) ∧ Below w.heap.size w w' := by
  have HC := Lib.hid (plog_contains hl hb)
  obtain ⟨ao, c, rfl, -, -, -⟩ := hl
  have hgp : goodP ps = (decide (ps.length ≤ 400) && !(ps.any fun x => !placeB x.1)) := by
    unfold goodP
    congr 1
    rw [List.not_any_eq_all_not]
    simp
  generalize (ps.any fun x => !placeB x.1) = b at HC hgp
  have HG := Lib.hid hgp
  clear hgp
  by_cases h4 : ps.length ≤ 400
  · go_enter Try.func72, Try.ntmps72
    go_wp2_with fail
    refine HC.out.mono ?_
    rintro e w1 ⟨rfl, hb1⟩
    have HB := Lib.hid hb1
    clear hb1
    go_wp2
    go_ret
    rw [HG.out]
    exact ⟨by simp [h4], HB.out⟩
  · have hd : decide (ps.length ≤ 400) = false := by simpa using h4
    rw [hd] at HG
    go_enter Try.func72, Try.ntmps72
    go_wp2
    go_ret
    rw [HG.out]
    exact ⟨rfl, Below.refl _ _⟩
end Go.Proofs.Ytfpnmphmngdkdaa
