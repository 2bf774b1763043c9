/-
  Pairs' words, words as pairs, commit words: contracts. No condition but the bounds that are typed.
-/
import Derived.Test.YtfpnmphmngdkdaaPlog1
import Derived.Test.YtfpnmphmngdkdaaPackSum
namespace Go.Proofs.Ytfpnmphmngdkdaa
open Go.ChangeShapes Go.WideShapes Go.ChangeAt Go.RowKit Go.Maps
set_option linter.unusedSimpArgs false
set_option linter.unusedVariables false

theorem pairWords_snoc (l : List (Int × Int)) (x : Int × Int) : pairWords (l ++ [x]) = pairWords l ++ [x.1, x.2] := by simp [pairWords]
theorem pairWords_len (l : List (Int × Int)) : (pairWords l).length = 2 * l.length := by
  induction l with
  | nil => rfl
  | cons x l ih =>
    have : pairWords (x :: l) = [x.1, x.2] ++ pairWords l := rfl
    rw [this, List.length_append, ih]
    simp; omega

theorem take_snoc' {α : Type} (d : α) {l : List α} {k : Nat} (hk : k < l.length) : l.take (k + 1) = l.take k ++ [l.getD k d] := by
  rw [List.take_succ_eq_append_getElem hk, List.getD_eq_getElem?_getD, List.getElem?_eq_getElem hk]
  rfl

theorem u64s_append (a b : List Int) : u64s (a ++ b) = u64s a ++ u64s b := by simp [u64s]

set_option maxRecDepth 20000 in
set_option maxHeartbeats 1000000 in
theorem plog_words {w : World} {lv : Value} {ps : List (Int × Int)} (hl : HoldsL w lv ps) (hw : ∀ x ∈ ps, (0 ≤ x.1 ∧ x.1 ≤ 9223372036854775807) ∧ 0 ≤ x.2 ∧ x.2 < 18446744073709551616) (hb : ps.length < 1099511627776) :
    Calls Try.prog 76 #[lv] w fun e w' => ∃ v', e = .returned v' ∧ w'.ownsRow w.heap.size 41 1 v' (2 * ps.length) (u64s (pairWords ps)) ∧ Below w.heap.size w w' := by
  obtain ⟨i0, hi0, hz0, hz1, hz2⟩ := info_parts Try.infoU64
  have HW := Lib.hid hw
  have HL := Lib.hid hl
  obtain ⟨ao, c, rfl, hlc, hcm, -⟩ := hl
  obtain ⟨n, hn⟩ : ∃ n, n = ps.length := ⟨_, rfl⟩
  rw [← hn] at HL hb hlc ⊢
  have HN := Lib.hid hn
  have hcell : Hid (∀ wr, Below w.heap.size w wr → ∀ j, j < n → ∃ g o, ao = some ⟨g, o, none⟩ ∧ wr.cell? ⟨g, o + j * 2, none⟩ = some (.int .i64 (ps.getD j (0, 0)).1) ∧ wr.cell? ⟨g, o + j * 2 + 1, none⟩ = some (.int .u64 (ps.getD j (0, 0)).2)) := by
    intro wr hm j hj
    obtain ⟨ao', c', e, -, -, h3⟩ := HL.out.below hm
    rw [← hn] at e h3
    simp only [Value.slice.injEq] at e
    obtain ⟨rfl, -, rfl⟩ := e
    exact h3 j hj
  unfold maxLen at hcm
  clear hw hn
  go_enter Try.func76, Try.ntmps76
  go_wp2
  go_loopg [3, 8] n (fun gk ov i wr => ∃ (k : Nat), k + gk = n ∧ i = .int .i64 k ∧ Hid (wr.ownsRow w.heap.size 41 1 ov (2 * k) (u64s (pairWords (ps.take k)))) ∧ Hid (Below w.heap.size w wr))
  case atStart => exact ⟨0, by omega, rfl, World.ownsRow_nil _ _ _ _, Below.refl _ _⟩
  case round =>
    obtain ⟨k, hk, rfl, HO, HB⟩ := hrel
    by_cases hlt : k < n
    · obtain ⟨g, o, rfl, e1, e2⟩ := hcell.out wr HB.out k hlt
      have hmem := HW.out _ (getD_mem (by rw [← HN.out]; exact hlt))
      have HSN := Lib.hid (take_snoc' (0, 0) (l := ps) (k := k) (by rw [← HN.out]; exact hlt))
      generalize ps.getD k (0, 0) = x at e1 e2 hmem HSN
      obtain ⟨at_, wd⟩ := x
      simp only at e1 e2 hmem
      obtain ⟨⟨ha0, ha1⟩, hwd0, hwd1⟩ := hmem
      have hconv : IntKind.u64.wrap at_ = at_ := by rw [IntKind.wrap_u64]; omega
      have hbs := HB.out.size
      go_wp2_with (at_builtin; refine wpList_append_any rfl (.tmp 12) (.tmp 18) _ rfl w.heap.size 41 i0 _ 1 8 Try.underlying53 hi0 hz0 hz1 hz2 rfl (by omega) _ (2 * k) (u64s (pairWords (ps.take k))) rfl (Mod.own (D := nob) (w := wr) ?_ HO.out (fun _ _ h => h)) _ 2 [.int .u64 at_, .int .u64 wd] rfl (HoldsC.block (cs := #[.int .u64 at_, .int .u64 wd]) (t := 41) (fr := (0, 0)) ?_ (by unfold maxLen; omega)) rfl (by simp [Value.oneCell']) (by unfold maxLen; omega) (by omega) ?_ ?_)
      · repeat (first | exact Mod.refl _ _ | refine Mod.drew ?_ | refine Mod.alloc ?_ _)
      · first | exact heap_alloc_new _ _ | exact heap_new1 _ _ _ | exact heap_new0 _ _ _
      · first | (simp; done) | (simp; omega)
      · intro v' w1 hown1 hgrow hat
        have HO1 : Hid (w1.ownsRow w.heap.size 41 1 v' (2 * (k + 1)) (u64s (pairWords (ps.take (k + 1))))) := by
          rw [HSN.out, pairWords_snoc, u64s_append]
          exact hown1
        have HB1 : Hid (Below w.heap.size w w1) := (((HB.out.alloc hbs _).alloc (by simp; omega) _)).grown hgrow (by simp; omega) (own_ge HO.out)
        clear hown1 hgrow hat
        go_wp2
        go_roundg (gk - 1)
        case measure => omega
        case rel => exact ⟨k + 1, by omega, by go_num, HO1, HB1⟩
    · obtain rfl : k = n := by omega
      go_wp2
      go_ret
      have h1 := HO.out
      rw [List.take_of_length_le (by have := HN.out; omega)] at h1
      exact ⟨_, rfl, h1, HB.out⟩

theorem asPairsL_snoc (at_ : Int) (l : List Int) (x : Int) : asPairsL at_ (l ++ [x]) = asPairsL at_ l ++ [(at_ + (l.length : Int), x)] := by
  unfold asPairsL
  rw [List.length_append, List.length_singleton, List.range_succ, List.map_append]
  congr 1
  · apply List.map_congr_left
    intro i hi
    have := List.mem_range.1 hi
    rw [List.getD_eq_getElem?_getD, List.getD_eq_getElem?_getD, List.getElem?_append_left this]
  · simp [List.getD_eq_getElem?_getD]

theorem asPairsL_len (at_ : Int) (l : List Int) : (asPairsL at_ l).length = l.length := by simp [asPairsL]

set_option maxRecDepth 20000 in
set_option maxHeartbeats 1000000 in
theorem plog_asPairs {w : World} {v : Value} {xs : List Int} (hv : HoldsU w v xs) (hb : xs.length < 1099511627776) (at_ : Int) (ha0 : 0 ≤ at_) (ha1 : at_ ≤ 10000) :
    Calls Try.prog 75 #[.int .i64 at_, v] w fun e w' => ∃ v', e = .returned v' ∧ w'.ownsRow w.heap.size 50 2 v' xs.length (cellsI (asPairsL at_ xs)) ∧ Below w.heap.size w w' := by
  obtain ⟨i0, hi0, hz0, hz1, hz2⟩ := info_parts Try.infoPair
  have HV := Lib.hid hv
  obtain ⟨ao, c, rfl, -, hlc, hcm, -⟩ := hv
  obtain ⟨n, hn⟩ : ∃ n, n = xs.length := ⟨_, rfl⟩
  rw [← hn] at HV hb hlc ⊢
  have HN := Lib.hid hn
  have hcell : Hid (∀ wr, Below w.heap.size w wr → ∀ j, j < n → ∃ g o, ao = some ⟨g, o, none⟩ ∧ wr.cell? ⟨g, o + j, none⟩ = some (.int .u64 (xs.getD j 0))) := by
    intro wr hm j hj
    obtain ⟨ao', c', e, h0, h1, h2, h3⟩ := HV.out.below hm
    rw [← hn] at e
    simp only [Value.slice.injEq] at e
    obtain ⟨rfl, -, rfl⟩ := e
    have hu : (u64s xs)[j]? = some (.int .u64 (xs.getD j 0)) := by
      unfold u64s
      rw [List.getElem?_map, List.getD_eq_getElem?_getD, List.getElem?_eq_getElem (by omega)]
      rfl
    cases ao with
    | none => have := h0 rfl; omega
    | some ad =>
      have h4 := h3 ad rfl j _ hu
      have h5 : (u64s xs)[0]? = some (.int .u64 (xs.getD 0 0)) := by
        unfold u64s
        rw [List.getElem?_map, List.getD_eq_getElem?_getD, List.getElem?_eq_getElem (by omega)]
        rfl
      have h6 := h3 ad rfl 0 _ h5
      obtain ⟨b, o, sp⟩ := ad
      have e0 : (⟨b, o, sp⟩ : Addr).add 0 = ⟨b, o, sp⟩ := by unfold Addr.add; rw [if_pos rfl]
      rw [e0] at h6
      cases sp with
      | some z =>
        unfold World.cell? at h6
        simp only at h6
        split at h6
        · simp at h6
        · cases h6
      | none =>
        refine ⟨b, o, rfl, ?_⟩
        have e1 : (⟨b, o, none⟩ : Addr).add j = ⟨b, o + j, none⟩ := by unfold Addr.add; split <;> simp_all
        rw [e1] at h4
        exact h4
  unfold maxLen at hcm
  clear hn
  go_enter Try.func75, Try.ntmps75
  go_wp2
  go_loopg [5, 10] n (fun gk ov i wr => ∃ (k : Nat), k + gk = n ∧ i = .int .i64 k ∧ Hid (wr.ownsRow w.heap.size 50 2 ov k (cellsI (asPairsL at_ (xs.take k)))) ∧ Hid (Below w.heap.size w wr))
  case atStart => exact ⟨0, by omega, rfl, World.ownsRow_nil _ _ _ _, Below.refl _ _⟩
  case round =>
    obtain ⟨k, hk, rfl, HO, HB⟩ := hrel
    by_cases hlt : k < n
    · obtain ⟨g, o, rfl, e1⟩ := hcell.out wr HB.out k hlt
      have HSN := Lib.hid (take_snoc' 0 (l := xs) (k := k) (by rw [← HN.out]; exact hlt))
      have HTL : Hid ((xs.take k).length = k) := by unfold Hid; rw [List.length_take]; have := HN.out; omega
      have HCL : Hid ((cellsI (asPairsL at_ (xs.take k))).length = k * 2) := by unfold Hid; rw [cellsI_len, asPairsL_len, HTL.out]
      generalize xs.getD k 0 = x at e1 HSN
      have hbs := HB.out.size
      have hk0 : (0 : Int) ≤ (k : Int) := Int.natCast_nonneg _
      go_wp2_with (at_builtin; refine wpList_append_any rfl (.tmp 15) (.tmp 21) _ rfl w.heap.size 50 i0 _ 2 16 Try.underlying23 hi0 hz0 hz1 hz2 rfl (by omega) _ k (cellsI (asPairsL at_ (xs.take k))) rfl (Mod.own (D := nob) (w := wr) ?_ HO.out (fun _ _ h => h)) _ 1 [.int .i64 (at_ + k), .int .u64 x] rfl (HoldsC.block (cs := #[.int .i64 (at_ + k), .int .u64 x]) (t := 50) (fr := (0, 0)) ?_ (by unfold maxLen; omega)) rfl (by simp [Value.oneCell']) (by unfold maxLen; omega) (by omega) ?_ ?_)
      · repeat (first | exact Mod.refl _ _ | refine Mod.drew ?_ | refine Mod.alloc ?_ _)
      · first | exact heap_alloc_new _ _ | exact heap_new1 _ _ _ | exact heap_new0 _ _ _
      · first | (simp; done) | (simp; omega)
      · intro v' w1 hown1 hgrow hat
        have HO1 : Hid (w1.ownsRow w.heap.size 50 2 v' (k + 1) (cellsI (asPairsL at_ (xs.take (k + 1))))) := by
          rw [HSN.out, asPairsL_snoc, HTL.out, cellsI_append]
          exact hown1
        have HB1 : Hid (Below w.heap.size w w1) := ((HB.out.alloc hbs _)).grown hgrow (by simp; omega) (own_ge HO.out)
        clear hown1 hgrow hat
        go_wp2
        go_roundg (gk - 1)
        case measure => omega
        case rel => exact ⟨k + 1, by omega, by go_num, HO1, HB1⟩
    · obtain rfl : k = n := by omega
      go_wp2
      go_ret
      have h1 := HO.out
      rw [List.take_of_length_le (by have := HN.out; omega)] at h1
      exact ⟨_, rfl, h1, HB.out⟩
end Go.Proofs.Ytfpnmphmngdkdaa
