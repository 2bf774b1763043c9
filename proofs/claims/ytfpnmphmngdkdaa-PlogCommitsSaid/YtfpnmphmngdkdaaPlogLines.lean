/-
  The reference of the journal: how many lines, how many deeds: contracts. No condition but the bounds that are typed.
-/
import Derived.Test.YtfpnmphmngdkdaaPlogGood
namespace Go.Proofs.Ytfpnmphmngdkdaa
open Go.ChangeShapes Go.WideShapes Go.ChangeAt Go.RowKit Go.Maps
set_option linter.unusedSimpArgs false
set_option linter.unusedVariables false

/-- Does no pair ahead of the i-th, of the first k, stand in its line? -/
def freshAt (l : List (Int × Int)) (i k : Nat) : Bool := (l.take k).all fun y => !(y.1 / 8 == (l.getD i (0, 0)).1 / 8)
def linesTo (l : List (Int × Int)) : Nat → Nat
  | 0 => 0
  | i + 1 => linesTo l i + if freshAt l i i = true then 1 else 0

theorem linesTo_le (l : List (Int × Int)) (i : Nat) : linesTo l i ≤ i := by
  induction i with
  | zero => exact Nat.le_refl _
  | succ i ih => simp only [linesTo]; split <;> omega

theorem take_snoc {α : Type} (d : α) (l : List α) (k : Nat) (hk : k < l.length) : l.take (k + 1) = l.take k ++ [l.getD k d] := by
  rw [List.take_add_one, List.getElem?_eq_getElem hk, List.getD_eq_getElem?_getD, List.getElem?_eq_getElem hk]
  rfl

theorem freshAt_step (l : List (Int × Int)) (i k : Nat) (hk : k < l.length) : freshAt l i (k + 1) = (freshAt l i k && !((l.getD k (0, 0)).1 / 8 == (l.getD i (0, 0)).1 / 8)) := by
  unfold freshAt
  rw [take_snoc (0, 0) l k hk, List.all_append]
  simp

theorem freshN_lines (l : List (Int × Int)) : ∀ (d n : Nat) (f : Int → Nat), d = l.length - n → n ≤ l.length → (∀ z, 0 < f z ↔ ∃ y ∈ l.take n, y.1 / 8 = z) → linesTo l n + freshN f (l.drop n) = linesTo l l.length := by
  intro d
  induction d with
  | zero =>
    intro n f hd hn hf
    have : n = l.length := by omega
    subst this
    rw [List.drop_of_length_le (Nat.le_refl _)]
    rfl
  | succ d ih =>
    intro n f hd hn hf
    have hlt : n < l.length := by omega
    have hx : l.drop n = l.getD n (0, 0) :: l.drop (n + 1) := by
      rw [List.drop_eq_getElem_cons hlt, List.getD_eq_getElem?_getD, List.getElem?_eq_getElem hlt]
      rfl
    have hfr : freshAt l n n = true ↔ ¬ 0 < f ((l.getD n (0, 0)).1 / 8) := by
      rw [hf]
      unfold freshAt
      rw [List.all_eq_true]
      constructor
      · rintro h ⟨y, hy, e⟩
        have := h y hy
        simp [e] at this
      · intro h y hy
        have : ¬ y.1 / 8 = (l.getD n (0, 0)).1 / 8 := fun e => h ⟨y, hy, e⟩
        simpa using this
    have h2 := ih (n + 1) (inc f ((l.getD n (0, 0)).1 / 8)) (by omega) (by omega) (fun z => by
      rw [take_snoc (0, 0) l n hlt]
      unfold inc
      constructor
      · intro h
        split at h
        · rename_i e
          exact ⟨_, List.mem_append_right _ (List.mem_singleton.2 rfl), e.symm⟩
        · obtain ⟨y, hy, e⟩ := (hf z).1 h
          exact ⟨y, List.mem_append_left _ hy, e⟩
      · rintro ⟨y, hy, e⟩
        rcases List.mem_append.1 hy with hy | hy
        · split
          · omega
          · exact (hf z).2 ⟨y, hy, e⟩
        · simp only [List.mem_singleton] at hy
          subst hy
          rw [if_pos e.symm]
          omega)
    rw [← h2, hx]
    simp only [freshN, linesTo]
    by_cases h : 0 < f ((l.getD n (0, 0)).1 / 8)
    · rw [if_pos h, if_neg (fun e => hfr.1 e h)]
      omega
    · rw [if_neg h, if_pos (hfr.2 h)]
      omega

theorem freshN_all (l : List (Int × Int)) : freshN (fun _ => 0) l = linesTo l l.length := by
  have := freshN_lines l l.length 0 (fun _ => 0) (by omega) (by omega) (fun z => by simp)
  simpa [linesTo] using this

set_option maxRecDepth 20000 in
set_option maxHeartbeats 1000000 in
theorem ref3_lines {w : World} {lv : Value} {ps : List (Int × Int)} (hl : HoldsL w lv ps) (hp : ∀ x ∈ ps, 0 ≤ x.1 ∧ x.1 < 3128) (hb : ps.length ≤ 400) :
    Calls Try.prog 111 #[lv] w fun e w' => e = .returned (.int .i64 (linesTo ps ps.length : Nat)) ∧ Below w.heap.size w w' := by
  obtain ⟨ao, c, rfl, hlc, hcm, hcell⟩ := hl
  obtain ⟨n, hn⟩ : ∃ n, n = ps.length := ⟨_, rfl⟩
  have hgp : ∀ k, k < n → 0 ≤ (ps.getD k (0, 0)).1 ∧ (ps.getD k (0, 0)).1 < 3128 := by
    intro k hk
    have hk2 : k < ps.length := by omega
    have := hp _ (List.getElem_mem hk2)
    rw [List.getD_eq_getElem?_getD, List.getElem?_eq_getElem hk2]
    exact this
  rw [← hn] at hb hlc hcell ⊢
  have HN := Lib.hid hn
  have HC := Lib.hid hcell
  have HP := Lib.hid hgp
  clear hn hcell hp hgp
  go_enter Try.func111, Try.ntmps111
  go_wp2
  go_loopg [3, 4] n (fun gk nv iv wr => ∃ (i t : Nat), i + gk = n ∧ iv = .int .i64 i ∧ nv = .int .i64 t ∧ t ≤ i ∧ Hid (t = linesTo ps i) ∧ Hid (Mod nob w wr))
  case atStart => exact ⟨0, 0, by omega, rfl, rfl, by omega, rfl, Mod.refl _ _⟩
  case round =>
    obtain ⟨i, t, hi, rfl, rfl, hti, HT, HMI⟩ := hrel
    by_cases hlt : i < n
    · obtain ⟨g, o, rfl, e1, -⟩ := HC.out i hlt
      have hx := HP.out i hlt
      have HSUC : Hid (linesTo ps (i + 1) = t + if freshAt ps i i = true then 1 else 0) := by unfold Hid; rw [HT.out]; rfl
      clear e1
      obtain ⟨x, hxx⟩ : ∃ x, x = (ps.getD i (0, 0)).1 := ⟨_, rfl⟩
      rw [← hxx] at hx
      have HXX := Lib.hid hxx
      clear hxx
      go_wp2_with fail
      go_loopg [5, 6] i (fun gk2 fv kv wr2 => ∃ k : Nat, k + gk2 = i ∧ kv = .int .i64 k ∧ fv = .bool (freshAt ps i k) ∧ Hid (Mod nob w wr2))
      case atStart => exact ⟨0, by omega, rfl, rfl, HMI.out⟩
      case round =>
        obtain ⟨k, hk, rfl, rfl, HMK⟩ := hrel
        by_cases hlt2 : k < i
        · obtain ⟨g', o', e', e2, -⟩ := HC.out k (by omega)
          simp only [Option.some.injEq, Addr.mk.injEq, and_true] at e'
          obtain ⟨rfl, rfl⟩ := e'
          obtain ⟨g3, o3, e3, e1, -⟩ := HC.out i (by omega)
          simp only [Option.some.injEq, Addr.mk.injEq, and_true] at e3
          obtain ⟨rfl, rfl⟩ := e3
          rw [← HXX.out] at e1
          have e1 := HMK.out.cell e1 (fun h => h)
          have e2 := HMK.out.cell e2 (fun h => h)
          have hy := HP.out k (by omega)
          obtain ⟨y, hyy⟩ : ∃ y, y = (ps.getD k (0, 0)).1 := ⟨_, rfl⟩
          rw [← hyy] at e2 hy
          have hst := freshAt_step ps i k (by rw [← HN.out]; omega)
          rw [← hyy, ← HXX.out] at hst
          have HST := Lib.hid hst
          clear hst hyy
          generalize freshAt ps i k = b at HST
          cases b with
          | true =>
            by_cases hq : y / 8 = x / 8
            · have hb : (y / 8 != x / 8) = false := by simpa using hq
              have hfin : freshAt ps i (k + 1) = false := by rw [HST.out]; simp [hq]
              have HF := Lib.hid hfin
              have HQ := Lib.hid hq
              clear hfin hq
              go_wp2_with fail
              go_region
              go_wp2_with fail
              go_roundg (gk - 1)
              case measure => omega
              case rel => exact ⟨k + 1, by omega, by go_num, by rw [HF.out]; try simp [HQ.out], HMK.out.drew⟩
            · have hb : (y / 8 != x / 8) = true := by simpa using hq
              have hfin : freshAt ps i (k + 1) = true := by rw [HST.out]; simp [hq]
              have HF := Lib.hid hfin
              have HQ := Lib.hid hq
              clear hfin hq
              go_wp2_with fail
              go_region
              go_wp2_with fail
              go_roundg (gk - 1)
              case measure => omega
              case rel => exact ⟨k + 1, by omega, by go_num, by rw [HF.out]; try simp [HQ.out], HMK.out.drew⟩
          | false =>
            have hfin : freshAt ps i (k + 1) = false := by rw [HST.out]; rfl
            have HF := Lib.hid hfin
            clear hfin
            go_wp2_with fail
            go_region
            go_wp2_with fail
            go_roundg (gk - 1)
            case measure => omega
            case rel => exact ⟨k + 1, by omega, by go_num, by rw [HF.out], HMK.out.drew⟩
        · obtain rfl : k = i := by omega
          generalize freshAt ps k k = b at HSUC
          cases b with
          | true =>
            go_wp2_with fail
            go_roundg (n - k - 1)
            case measure => omega
            case rel => exact ⟨k + 1, t + 1, by omega, by go_num, by go_num, by omega, by unfold Hid; rw [HSUC.out]; rfl, HMK.out⟩
          | false =>
            go_wp2_with fail
            go_roundg (n - k - 1)
            case measure => omega
            case rel => exact ⟨k + 1, t, by omega, by go_num, by go_num, by omega, by unfold Hid; rw [HSUC.out]; rfl, HMK.out⟩
    · obtain rfl : i = n := by omega
      go_wp2
      go_ret
      rw [← HT.out]
      exact ⟨rfl, HMI.out.below (Nat.le_refl _) (fun b h => h.elim)⟩
theorem asPairsL_getD (xs : List Int) (j : Nat) (hj : j < xs.length) : ((asPairsL 9 xs).getD j (0, 0)).1 = 9 + (j : Int) := by
  unfold asPairsL
  rw [List.getD_eq_getElem?_getD, List.getElem?_map, List.getElem?_range hj]
  rfl

theorem asPairsL_length (xs : List Int) : (asPairsL 9 xs).length = xs.length := by simp [asPairsL]

theorem lines_row (xs : List Int) : ∀ k, k < xs.length → linesTo (asPairsL 9 xs) (k + 1) = (9 + k) / 8 := by
  intro k
  induction k with
  | zero => intro _; rfl
  | succ k ih =>
    intro hk
    have h1 := ih (by omega)
    have e : linesTo (asPairsL 9 xs) (k + 1 + 1) = linesTo (asPairsL 9 xs) (k + 1) + if freshAt (asPairsL 9 xs) (k + 1) (k + 1) = true then 1 else 0 := rfl
    rw [e, h1]
    have hx := asPairsL_getD xs (k + 1) hk
    by_cases hm : (9 + (k + 1)) % 8 = 0
    · have hf : freshAt (asPairsL 9 xs) (k + 1) (k + 1) = true := by
        unfold freshAt
        rw [List.all_eq_true, hx]
        intro y hy
        obtain ⟨j, hj, rfl⟩ := List.getElem_of_mem hy
        rw [List.length_take, asPairsL_length] at hj
        have hy2 : ((asPairsL 9 xs).take (k + 1))[j]'(by rw [List.length_take, asPairsL_length]; exact hj) = (asPairsL 9 xs).getD j (0, 0) := by
          rw [List.getElem_take, List.getD_eq_getElem?_getD, List.getElem?_eq_getElem (by rw [asPairsL_length]; omega)]
          rfl
        rw [hy2, asPairsL_getD xs j (by omega)]
        simp only [Bool.not_eq_true', beq_eq_false_iff_ne, ne_eq]
        omega
      rw [if_pos hf]
      omega
    · have hf : ¬ freshAt (asPairsL 9 xs) (k + 1) (k + 1) = true := by
        unfold freshAt
        rw [List.all_eq_true, hx]
        intro h
        have h2 := h ((asPairsL 9 xs).getD k (0, 0)) (by
          rw [List.getD_eq_getElem?_getD, List.getElem?_eq_getElem (by rw [asPairsL_length]; omega)]
          refine List.mem_iff_getElem.2 ⟨k, by rw [List.length_take, asPairsL_length]; omega, ?_⟩
          rw [List.getElem_take]
          rfl)
        rw [asPairsL_getD xs k (by omega)] at h2
        simp only [Bool.not_eq_true', beq_eq_false_iff_ne, ne_eq] at h2
        omega
      rw [if_neg hf]
      omega

theorem commitDeeds_eq (l : List (Int × Int)) (h : 0 < l.length) : commitDeeds l = 2 * l.length + (8 + 2 * l.length) / 8 + 1 + 3 + l.length + linesTo l l.length + 1 + 3 := by
  unfold commitDeeds
  rw [if_neg (by omega), freshN_all, freshN_all, asPairsL_length]
  have hl : (pairWords l).length = 2 * l.length := pairWords_len l
  rw [hl]
  have h1 := lines_row (pairWords l) (2 * l.length - 1) (by omega)
  rw [show 2 * l.length - 1 + 1 = 2 * l.length by omega] at h1
  rw [h1]
  have : 9 + (2 * l.length - 1) = 8 + 2 * l.length := by omega
  rw [this]
  omega

set_option maxRecDepth 20000 in
theorem ref3_deeds {w : World} {lv : Value} {ps : List (Int × Int)} (hl : HoldsL w lv ps) (hp : ∀ x ∈ ps, 0 ≤ x.1 ∧ x.1 < 3128) (hb : ps.length ≤ 400) :
    Calls Try.prog 59 #[lv] w fun e w' => e = .returned (.int .i64 (commitDeeds ps : Nat)) ∧ Below w.heap.size w w' := by
  have HLI := Lib.hid (ref3_lines hl hp hb)
  obtain ⟨ao, c, rfl, hlc, hcm, -⟩ := hl
  have hle := linesTo_le ps ps.length
  have hcd : 0 < ps.length → commitDeeds ps = _ := commitDeeds_eq ps
  have hc0 : ps.length = 0 → commitDeeds ps = 0 := fun h => by unfold commitDeeds; rw [if_pos h]
  generalize commitDeeds ps = cd at hcd hc0
  generalize linesTo ps ps.length = t at HLI hle hcd
  obtain ⟨n, hn⟩ : ∃ n, n = ps.length := ⟨_, rfl⟩
  rw [← hn] at HLI hle hcd hc0 hlc hb ⊢
  clear hn hp
  by_cases h0 : n = 0
  · have h1 := hc0 h0
    subst h0
    subst h1
    clear hcd hc0 HLI
    go_enter Try.func59, Try.ntmps59
    go_wp2
    go_ret
    exact ⟨rfl, Below.refl _ _⟩
  · have h1 := hcd (by omega)
    have HCD := Lib.hid h1
    have hn0 : ((n : Int) == 0) = false := by simp; omega
    clear hcd hc0 h1
    go_enter Try.func59, Try.ntmps59
    go_wp2_with fail
    refine HLI.out.mono ?_
    rintro e w1 ⟨rfl, hb1⟩
    have HB := Lib.hid hb1
    clear hb1
    go_wp2
    go_ret
    refine ⟨?_, HB.out⟩
    have := HCD.out
    simp
    omega
end Go.Proofs.Ytfpnmphmngdkdaa
