/-
  What the laws of the journal call: places, the reference's words behind pairs, whether a memory's words are so: contracts. No condition but the bounds that are typed.
-/
import Derived.Test.YtfpnmphmngdkdaaPlogLawM
namespace Go.Proofs.Ytfpnmphmngdkdaa
open Go.ChangeShapes Go.WideShapes Go.ChangeAt Go.RowKit Go.Maps
set_option linter.unusedSimpArgs false
set_option linter.unusedVariables false

theorem own_set {w : World} {base g n cap i : Nat} {e : TypeId} {v : Value} {xs : List Value} (h : w.ownsRow base e 1 (.slice (some ⟨g, 0, none⟩) n cap) n xs) (hi : i < n) : (w.setCell ⟨g, i, none⟩ v).ownsRow base e 1 (.slice (some ⟨g, 0, none⟩) n cap) n (xs.set i v) := by
  obtain ⟨hl, h2⟩ := h
  refine ⟨by simpa using hl, .inr ?_⟩
  rcases h2 with ⟨hv, _⟩ | ⟨g', cap', cur, hv, h1, h2, h3, h4, h5, h6⟩
  · cases hv
  · simp only [Value.slice.injEq, Option.some.injEq, Addr.mk.injEq, and_true, true_and] at hv
    obtain ⟨rfl, rfl⟩ := hv
    refine ⟨g, cap, _, rfl, h1, heap_setCell_same w g i cur _ _ h2, h3, h4, by simpa using h5, ?_⟩
    rw [← h6]
    apply List.ext_getElem?
    intro k
    rw [List.getElem?_take, List.getElem?_set]
    by_cases e : i = k
    · subst e
      rw [if_pos (by omega)]
      simp only [if_true]
      rw [if_pos (by rw [List.length_take, Array.length_toList]; omega)]
      have hic : i < cur.size := by omega
      simp [hic]
    · rw [if_neg e, List.getElem?_take]
      split
      · simp [Array.getElem?_setIfInBounds, e]
      · rfl

theorem holdsC_of_U {w : World} {v : Value} {xs : List Int} (h : HoldsU w v xs) : HoldsC w v xs.length (u64s xs) := by
  obtain ⟨ao, c, rfl, h1, h2, h3, h4⟩ := h
  exact ⟨ao, c, rfl, h2, h3, fun e => by have := h1 e; omega, h4⟩

theorem u64s_len (xs : List Int) : (u64s xs).length = xs.length := by simp [u64s]
theorem u64s_one (xs : List Int) : ∀ u ∈ u64s xs, u.oneCell' = true := ints_oneCell _ _
theorem u64s_set (xs : List Int) (i : Nat) (x : Int) : (u64s xs).set i (.int .u64 x) = u64s (xs.set i x) := by
  unfold u64s
  rw [List.map_set]

theorem afterL_snoc (xs : List Int) (l : List (Int × Int)) (x : Int × Int) : afterL xs (l ++ [x]) = (afterL xs l).set x.1.toNat x.2 := by
  unfold afterL
  rw [List.foldl_append]
  rfl

set_option maxRecDepth 20000 in
set_option maxHeartbeats 1000000 in
theorem ref3_after {w : World} {v lv : Value} {xs : List Int} {ps : List (Int × Int)} (hv : HoldsU w v xs) (hl : HoldsL w lv ps) (hxl : xs.length ≤ 10000) (hin : ∀ x ∈ ps, 0 ≤ x.1 ∧ x.1 < xs.length) (hb : ps.length < 1099511627776) :
    Calls Try.prog 61 #[v, lv] w fun e w' => ∃ v', e = .returned v' ∧ w'.ownsRow w.heap.size 41 1 v' xs.length (u64s (afterL xs ps)) ∧ Below w.heap.size w w' := by
  obtain ⟨i0, hi0, hz0, hz1, hz2⟩ := info_parts Try.infoU64
  have HV := Lib.hid (holdsC_of_U hv)
  have HL := Lib.hid hl
  have HIN := Lib.hid hin
  obtain ⟨ao, c, rfl, -, -, -, -⟩ := hv
  obtain ⟨bo, d, rfl, hld, hdm, -⟩ := hl
  obtain ⟨n, hn⟩ : ∃ n, n = ps.length := ⟨_, rfl⟩
  obtain ⟨m, hm⟩ : ∃ m, m = xs.length := ⟨_, rfl⟩
  rw [← hn] at HL hb hld ⊢
  rw [← hm] at HV HIN hxl ⊢
  have HN := Lib.hid hn
  have HM := Lib.hid hm
  have hcell : Hid (∀ wr, Below w.heap.size w wr → ∀ j, j < n → ∃ g o, bo = some ⟨g, o, none⟩ ∧ wr.cell? ⟨g, o + j * 2, none⟩ = some (.int .i64 (ps.getD j (0, 0)).1) ∧ wr.cell? ⟨g, o + j * 2 + 1, none⟩ = some (.int .u64 (ps.getD j (0, 0)).2)) := by
    intro wr hmb j hj
    obtain ⟨ao', c', e, -, -, h3⟩ := HL.out.below hmb
    rw [← hn] at e h3
    simp only [Value.slice.injEq] at e
    obtain ⟨rfl, -, rfl⟩ := e
    exact h3 j hj
  unfold maxLen at hdm
  have HXL : Hid ((u64s xs).length = m * 1) := by unfold Hid; rw [u64s_len]; omega
  clear hin hn hm
  go_enter Try.func61, Try.ntmps61
  go_wp2_with (at_builtin; refine wpList_append_any rfl (.tmp 7) (.tmp 8) _ rfl w.heap.size 41 i0 _ 1 8 Try.underlying53 hi0 hz0 hz1 hz2 rfl (by omega) (.slice (some ⟨w.heap.size, 0, none⟩) 0 0) 0 [] rfl (own_block (cs := #[]) (n := 0) ?_ (Nat.le_refl _) (Nat.zero_le _) rfl) _ m (u64s xs) rfl (HoldsC.mod (D := nob) HV.out ?_ (fun _ _ h => h)) HXL.out (u64s_one _) (by unfold maxLen; omega) (by omega) ?_ ?_)
  · first | exact heap_alloc_new _ _ | exact heap_new1 _ _ _ | exact heap_new0 _ _ _
  · repeat (first | exact Mod.refl _ _ | refine Mod.drew ?_ | refine Mod.alloc ?_ _)
  · first | (simp; done) | (simp; omega)
  intro v' w1 hown1 hgrow hat
  try simp only [Nat.zero_add, List.nil_append] at hown1
  have HO1 := Lib.hid hown1
  have HB1 : Hid (Below w.heap.size w w1) := ((Below.refl _ _).alloc (Nat.le_refl _) _).grown hgrow (by simp) (by intro q hq; simp [Value.ownBlock] at hq; omega)
  obtain ⟨ao1, cap1, rfl, hcap1, hcap2, -⟩ := own_shape hown1
  unfold maxLen at hcap2
  clear hown1 hgrow hat
  go_wp2
  go_loopg [6] n (fun gk i wr => ∃ (k : Nat), k + gk = n ∧ i = .int .i64 k ∧ Hid (wr.ownsRow w.heap.size 41 1 (.slice ao1 m cap1) m (u64s (afterL xs (ps.take k)))) ∧ Hid (Below w.heap.size w wr))
  case atStart => exact ⟨0, by omega, rfl, HO1.out, HB1.out⟩
  case round =>
    obtain ⟨k, hk, rfl, HO, HB⟩ := hrel
    by_cases hlt : k < n
    · obtain ⟨g, o, rfl, e1, e2⟩ := hcell.out wr HB.out k hlt
      have hmem := HIN.out _ (getD_mem (by rw [← HN.out]; exact hlt))
      have HSN := Lib.hid (take_snoc' (0, 0) (l := ps) (k := k) (by rw [← HN.out]; exact hlt))
      generalize ps.getD k (0, 0) = x at e1 e2 hmem HSN
      obtain ⟨at_, wd⟩ := x
      simp only at e1 e2 hmem
      obtain ⟨ha0, ha1⟩ := hmem
      obtain ⟨a, rfl⟩ := Int.eq_ofNat_of_zero_le ha0
      have ham : a < m := by omega
      obtain ⟨g1, cc, e, hgb, hgl, -, -⟩ := own_some HO.out (by omega)
      simp only [Value.slice.injEq] at e
      obtain ⟨rfl, -, rfl⟩ := e
      have hoc := HO.out
      have hlx : (afterL xs (ps.take k)).length = m := by rw [afterL_len]; exact HM.out.symm
      have hd1 : ∃ y, wr.cell? ⟨g1, a, none⟩ = some y := by
        have := hoc.cells rfl a _ (List.getElem?_eq_getElem (by rw [u64s_len]; omega))
        rw [Addr.add_lit, Nat.zero_add] at this
        exact ⟨_, this⟩
      obtain ⟨y, hd1⟩ := hd1
      have hd2 : wr.frozen? ⟨g1, a, none⟩ = false := by
        rcases hoc.2 with ⟨hv, _⟩ | ⟨g', cap', cur, hv, h1, h2, _⟩
        · cases hv
        · cases hv; exact frozen_of_row _ _ _ _ _ h2
      have hk0 : (0 : Int) ≤ (k : Int) := Int.natCast_nonneg _
      have hk1 : (k : Int) < (n : Int) := by omega
      have ha2 : (a : Int) < (m : Int) := by omega
      clear hoc hlx
      go_wp2_with fail
      go_still_tail 12, (by kernel_rfl)
      have hd3 : wr.drew.cell? ⟨g1, a, none⟩ = some y := hd1
      have hd4 : wr.drew.frozen? ⟨g1, a, none⟩ = false := hd2
      have HO2 : Hid ((wr.drew.setCell ⟨g1, a, none⟩ (.int .u64 wd)).ownsRow w.heap.size 41 1 (.slice (some ⟨g1, 0, none⟩) m cap1) m (u64s (afterL xs (ps.take (k + 1))))) := by
        rw [HSN.out, afterL_snoc, ← u64s_set]
        exact own_set (w := wr.drew) HO.out ham
      have HB2 : Hid (Below w.heap.size w (wr.drew.setCell ⟨g1, a, none⟩ (.int .u64 wd))) := HB.out.drew.setCell hgb _
      go_wp2
      go_roundg (gk - 1)
      case measure => omega
      case rel => exact ⟨k + 1, by omega, by go_num, HO2, HB2⟩
    · obtain rfl : k = n := by omega
      go_wp2
      go_ret
      have h1 := HO.out
      rw [List.take_of_length_le (by have := HN.out; omega)] at h1
      exact ⟨_, rfl, h1, HB.out⟩

def placeOf (x : Int) : Int := if 8 ≤ x % 3128 ∧ x % 3128 < 816 then x % 3128 + 816 else x % 3128
def placesL (l : List (Int × Int)) : List (Int × Int) := l.map fun x => (placeOf x.1, x.2)

theorem placesL_good (l : List (Int × Int)) (h : l.length ≤ 400) : goodP (placesL l) = true := by
  unfold goodP
  have h1 : (placesL l).length ≤ 400 := by simpa [placesL] using h
  simp only [Bool.and_eq_true, decide_eq_true_eq, List.all_eq_true]
  refine ⟨h1, fun x hx => ?_⟩
  obtain ⟨y, hy, rfl⟩ := List.mem_map.1 hx
  unfold placeB placeOf
  simp only [decide_eq_true_eq]
  split <;> omega

theorem placesL_words (l : List (Int × Int)) (h : Words2 l) : Words2 (placesL l) := by
  intro x hx
  obtain ⟨y, hy, rfl⟩ := List.mem_map.1 hx
  exact h y hy

theorem placesL_len (l : List (Int × Int)) : (placesL l).length = l.length := by simp [placesL]

theorem placesL_snoc (l : List (Int × Int)) (x : Int × Int) : placesL (l ++ [x]) = placesL l ++ [(placeOf x.1, x.2)] := by simp [placesL]

set_option maxRecDepth 20000 in
set_option maxHeartbeats 1000000 in
theorem law3_places {w : World} {lv : Value} {ps : List (Int × Int)} (hl : HoldsL w lv ps) (hw : Word64 ps) (hb : ps.length < 1099511627776) :
    Calls Try.prog 57 #[lv] w fun e w' => ∃ v', e = .returned v' ∧ w'.ownsRow w.heap.size 50 2 v' ps.length (cellsI (placesL ps)) ∧ Below w.heap.size w w' := by
  obtain ⟨i0, hi0, hz0, hz1, hz2⟩ := info_parts Try.infoPair
  have HL := Lib.hid hl
  have HW := Lib.hid hw
  obtain ⟨bo, d, rfl, hld, hdm, -⟩ := hl
  obtain ⟨n, hn⟩ : ∃ n, n = ps.length := ⟨_, rfl⟩
  rw [← hn] at HL hb hld ⊢
  have HN := Lib.hid hn
  have hcell : Hid (∀ wr, Below w.heap.size w wr → ∀ j, j < n → ∃ g o, bo = some ⟨g, o, none⟩ ∧ wr.cell? ⟨g, o + j * 2, none⟩ = some (.int .i64 (ps.getD j (0, 0)).1) ∧ wr.cell? ⟨g, o + j * 2 + 1, none⟩ = some (.int .u64 (ps.getD j (0, 0)).2)) := by
    intro wr hmb j hj
    obtain ⟨ao', c', e, -, -, h3⟩ := HL.out.below hmb
    rw [← hn] at e h3
    simp only [Value.slice.injEq] at e
    obtain ⟨rfl, -, rfl⟩ := e
    exact h3 j hj
  unfold maxLen at hdm
  clear hw hn
  go_enter Try.func57, Try.ntmps57
  go_wp2
  go_loopg [3, 4] n (fun gk ov i wr => ∃ (k : Nat), k + gk = n ∧ i = .int .i64 k ∧ Hid (wr.ownsRow w.heap.size 50 2 ov k (cellsI (placesL (ps.take k)))) ∧ Hid (Below w.heap.size w wr))
  case atStart => exact ⟨0, by omega, rfl, World.ownsRow_nil _ _ _ _, Below.refl _ _⟩
  case round =>
    obtain ⟨k, hk, rfl, HO, HB⟩ := hrel
    by_cases hlt : k < n
    · obtain ⟨g, o, rfl, e1, e2⟩ := hcell.out wr HB.out k hlt
      have hmem := HW.out _ (getD_mem (by rw [← HN.out]; exact hlt))
      have HSN := Lib.hid (take_snoc' (0, 0) (l := ps) (k := k) (by rw [← HN.out]; exact hlt))
      have HCL : Hid ((cellsI (placesL (ps.take k))).length = k * 2) := by unfold Hid; rw [cellsI_len, placesL_len, List.length_take]; have := HN.out; congr 1; omega
      generalize ps.getD k (0, 0) = x at e1 e2 hmem HSN
      obtain ⟨at_, wd⟩ := x
      simp only at e1 e2 hmem
      obtain ⟨⟨ha0, ha1⟩, -, -⟩ := hmem
      have hbs := HB.out.size
      have ht0 : -3128 < at_.tmod 3128 := by have := Int.lt_tmod_of_pos at_ (b := 3128) (by omega); omega
      have ht1 : at_.tmod 3128 < 3128 := Int.tmod_lt_of_pos at_ (by omega)
      have hmod : at_.tmod 3128 % 3128 = at_ % 3128 := by
        rw [Int.tmod_eq_emod]
        split <;> simp
      have hpl : placeOf at_ = if 8 ≤ at_ % 3128 ∧ at_ % 3128 < 816 then at_ % 3128 + 816 else at_ % 3128 := rfl
      have hr0 : 0 ≤ at_ % 3128 := Int.emod_nonneg _ (by omega)
      have hr1 : at_ % 3128 < 3128 := Int.emod_lt_of_pos _ (by omega)
      rw [← hmod] at hr0 hr1 hpl
      have HPL := Lib.hid hpl
      clear hmod hpl
      have fin : ∀ (v' : Value) (w1 : World) (q : Int), q = placeOf at_ → w1.ownsRow w.heap.size 50 2 v' (k + 1) (cellsI (placesL (ps.take k)) ++ [.int .i64 q, .int .u64 wd]) → Hid (w1.ownsRow w.heap.size 50 2 v' (k + 1) (cellsI (placesL (ps.take (k + 1))))) := by
        rintro v' w1 q rfl h
        unfold Hid
        rw [HSN.out, placesL_snoc, cellsI_append]
        exact h
      have FIN := Lib.hid fin
      clear fin
      rcases (show at_.tmod 3128 % 3128 < 8 ∨ (8 ≤ at_.tmod 3128 % 3128 ∧ at_.tmod 3128 % 3128 < 816) ∨ 816 ≤ at_.tmod 3128 % 3128 by omega) with hq | ⟨hq1, hq2⟩ | hq
      · have HQ : Hid ((if 8 ≤ at_.tmod 3128 % 3128 ∧ at_.tmod 3128 % 3128 < 816 then at_.tmod 3128 % 3128 + 816 else at_.tmod 3128 % 3128) = at_.tmod 3128 % 3128) := if_neg (by omega)
        go_wp2_with (at_builtin; refine wpList_append_any rfl (.tmp 28) (.tmp 36) _ rfl w.heap.size 50 i0 _ 2 16 Try.underlying23 hi0 hz0 hz1 hz2 rfl (by omega) _ k (cellsI (placesL (ps.take k))) rfl (Mod.own (D := nob) (w := wr) ?_ HO.out (fun _ _ h => h)) _ 1 [.int .i64 (at_.tmod 3128 % 3128), .int .u64 wd] rfl (HoldsC.block (cs := #[.int .i64 (at_.tmod 3128 % 3128), .int .u64 wd]) (t := 50) (fr := (0, 0)) ?_ (by unfold maxLen; omega)) rfl (by simp [Value.oneCell']) (by unfold maxLen; omega) (by omega) ?_ ?_)
        · repeat (first | exact Mod.refl _ _ | refine Mod.drew ?_ | refine Mod.alloc ?_ _)
        · first | exact heap_alloc_new _ _ | exact heap_new1 _ _ _ | exact heap_new0 _ _ _ | (obtain ⟨_, h⟩ := Array.getElem?_eq_some_iff.1 (heap_alloc_new wr (.cells #[.int .i64 (at_.tmod 3128 % 3128), .int .u64 wd] 50)); exact h)
        · first | omega | (simp; done) | (simp; omega)
        · intro v' w1 hown1 hgrow hat
          have HO1 := FIN.out v' w1 _ (by rw [HPL.out, HQ.out]) hown1
          have HB1 : Hid (Below w.heap.size w w1) := ((HB.out.alloc hbs _)).grown hgrow (by simp; omega) (own_ge HO.out)
          clear hown1 hgrow hat
          go_wp2
          go_roundg (gk - 1)
          case measure => omega
          case rel => exact ⟨k + 1, by omega, by go_num, HO1, HB1⟩
      · have HQ : Hid ((if 8 ≤ at_.tmod 3128 % 3128 ∧ at_.tmod 3128 % 3128 < 816 then at_.tmod 3128 % 3128 + 816 else at_.tmod 3128 % 3128) = at_.tmod 3128 % 3128 + 816) := if_pos ⟨hq1, hq2⟩
        go_wp2_with (at_builtin; refine wpList_append_any rfl (.tmp 28) (.tmp 36) _ rfl w.heap.size 50 i0 _ 2 16 Try.underlying23 hi0 hz0 hz1 hz2 rfl (by omega) _ k (cellsI (placesL (ps.take k))) rfl (Mod.own (D := nob) (w := wr) ?_ HO.out (fun _ _ h => h)) _ 1 [.int .i64 (at_.tmod 3128 % 3128 + 816), .int .u64 wd] rfl (HoldsC.block (cs := #[.int .i64 (at_.tmod 3128 % 3128 + 816), .int .u64 wd]) (t := 50) (fr := (0, 0)) ?_ (by unfold maxLen; omega)) rfl (by simp [Value.oneCell']) (by unfold maxLen; omega) (by omega) ?_ ?_)
        · repeat (first | exact Mod.refl _ _ | refine Mod.drew ?_ | refine Mod.alloc ?_ _)
        · first | exact heap_alloc_new _ _ | exact heap_new1 _ _ _ | exact heap_new0 _ _ _ | (obtain ⟨_, h⟩ := Array.getElem?_eq_some_iff.1 (heap_alloc_new wr (.cells #[.int .i64 (at_.tmod 3128 % 3128), .int .u64 wd] 50)); exact h)
        · first | omega | (simp; done) | (simp; omega)
        · intro v' w1 hown1 hgrow hat
          have HO1 := FIN.out v' w1 _ (by rw [HPL.out, HQ.out]) hown1
          have HB1 : Hid (Below w.heap.size w w1) := ((HB.out.alloc hbs _)).grown hgrow (by simp; omega) (own_ge HO.out)
          clear hown1 hgrow hat
          go_wp2
          go_roundg (gk - 1)
          case measure => omega
          case rel => exact ⟨k + 1, by omega, by go_num, HO1, HB1⟩
      · have HQ : Hid ((if 8 ≤ at_.tmod 3128 % 3128 ∧ at_.tmod 3128 % 3128 < 816 then at_.tmod 3128 % 3128 + 816 else at_.tmod 3128 % 3128) = at_.tmod 3128 % 3128) := if_neg (by omega)
        have hq3 : 8 ≤ at_.tmod 3128 % 3128 := by omega
        go_wp2_with (at_builtin; refine wpList_append_any rfl (.tmp 28) (.tmp 36) _ rfl w.heap.size 50 i0 _ 2 16 Try.underlying23 hi0 hz0 hz1 hz2 rfl (by omega) _ k (cellsI (placesL (ps.take k))) rfl (Mod.own (D := nob) (w := wr) ?_ HO.out (fun _ _ h => h)) _ 1 [.int .i64 (at_.tmod 3128 % 3128), .int .u64 wd] rfl (HoldsC.block (cs := #[.int .i64 (at_.tmod 3128 % 3128), .int .u64 wd]) (t := 50) (fr := (0, 0)) ?_ (by unfold maxLen; omega)) rfl (by simp [Value.oneCell']) (by unfold maxLen; omega) (by omega) ?_ ?_)
        · repeat (first | exact Mod.refl _ _ | refine Mod.drew ?_ | refine Mod.alloc ?_ _)
        · first | exact heap_alloc_new _ _ | exact heap_new1 _ _ _ | exact heap_new0 _ _ _ | (obtain ⟨_, h⟩ := Array.getElem?_eq_some_iff.1 (heap_alloc_new wr (.cells #[.int .i64 (at_.tmod 3128 % 3128), .int .u64 wd] 50)); exact h)
        · first | omega | (simp; done) | (simp; omega)
        · intro v' w1 hown1 hgrow hat
          have HO1 := FIN.out v' w1 _ (by rw [HPL.out, HQ.out]) hown1
          have HB1 : Hid (Below w.heap.size w w1) := ((HB.out.alloc hbs _)).grown hgrow (by simp; omega) (own_ge HO.out)
          clear hown1 hgrow hat
          go_wp2
          go_roundg (gk - 1)
          case measure => omega
          case rel => exact ⟨k + 1, by omega, by go_num, HO1, HB1⟩
    · obtain rfl : k = n := by omega
      go_wp2
      go_ret
      have h1 := HO.out
      rw [List.take_of_length_le (by have := HN.out; omega)] at h1
      exact ⟨_, rfl, h1, HB.out⟩
end Go.Proofs.Ytfpnmphmngdkdaa
