import Derived.Test.YtcbcemeagiociaaRef4
namespace Go.Proofs.Ytcbcemeagiociaa
open Go.ChangeShapes Go.WideShapes Go.ChangeAt Go.RowKit
set_option linter.unusedSimpArgs false
set_option linter.unusedVariables false

def rowN (n : Nat) (f : Nat → Int) : List Int := (List.range n).map f
theorem rowN_length (n : Nat) (f : Nat → Int) : (rowN n f).length = n := by simp [rowN]
theorem rowN_get (n : Nat) (f : Nat → Int) (j : Nat) (hj : j < n) : (rowN n f)[j]? = some (f j) := by
  unfold rowN
  rw [List.getElem?_map, List.getElem?_range hj]
  rfl

theorem holds_rowN {w : World} {B c : Nat} {f : Nat → Int} (h : Words w B c f) : HoldsU w (.slice (some ⟨B, 0, none⟩) 3128 c) (rowN 3128 f) := by
  refine ⟨some ⟨B, 0, none⟩, c, by rw [rowN_length], (by intro h; cases h), ?_, ?_, ?_⟩
  · rw [rowN_length]; obtain ⟨_, _, _, h3, _⟩ := h; exact h3
  · obtain ⟨_, _, _, _, h4, _⟩ := h; exact h4
  · intro ad had j u hj
    cases had
    have hlt : j < 3128 := by
      have := (List.getElem?_eq_some_iff.1 hj).1
      simpa [u64s, rowN_length] using this
    have hadd : (⟨B, 0, none⟩ : Addr).add j = ⟨B, j, none⟩ := by unfold Addr.add; split <;> simp_all
    rw [hadd, h.cell j hlt, ← hj]
    unfold u64s
    rw [List.getElem?_map, rowN_get _ _ _ hlt]
    rfl

theorem sheet_words {w : World} {p : Nat} {D : Nat → Prop} {S : Sh} (h : SheetAt w p D S) :
    Calls Try.prog 75 #[.pointer (some ⟨p, 0, none⟩)] w fun e w' => ∃ v', e = .returned v' ∧ w'.ownsRow w.heap.size 26 1 v' 3128 (u64s (rowN 3128 S.now)) ∧ Below w.heap.size w w' := by
  obtain ⟨pb, nb, cb, cn, wv, h⟩ := h
  have hc1 : w.cell? ⟨p, 1, none⟩ = some (.slice (some ⟨nb, 0, none⟩) 3128 cn) := by rw [cell_of_row _ _ _ _ _ _ h.head]; rfl
  have hcl := clone_u64 (holds_rowN h.now) (by rw [rowN_length]; omega)
  rw [rowN_length] at hcl
  have HCL := Lib.hid hcl
  clear h hcl
  go_enter Try.func75, Try.ntmps75
  go_wp2_with (go_at_call 73; refine HCL.out.mono ?_; rintro e w1 ⟨v', rfl, hown, hb⟩)
  go_ret
  exact ⟨_, rfl, hown, hb⟩

theorem pairsTo_prefix (S : Sh) (i n : Nat) (h : i ≤ n) : pairsTo S i <+: pairsTo S n := by
  induction n with
  | zero => obtain rfl : i = 0 := by omega
            exact List.prefix_refl _
  | succ n ih =>
    by_cases e : i = n + 1
    · subst e; exact List.prefix_refl _
    · exact (ih (by omega)).trans (by simp only [pairsTo]; exact List.prefix_append _ _)

theorem pairsTo_at (S : Sh) (i n : Nat) (h : i < n) (hne : S.now i ≠ S.beneath i) : (pairsTo S n)[(pairsTo S i).length]? = some (i, S.now i) := by
  obtain ⟨t, ht⟩ := pairsTo_prefix S (i + 1) n h
  rw [← ht]
  simp only [pairsTo]
  rw [if_neg hne]
  simp

theorem HoldsP.below {w w' : World} {v : Value} {ps : List (Int × Int)} (h : HoldsP w v ps) (hb : Below w.heap.size w w') : HoldsP w' v ps := by
  obtain ⟨ao, c, rfl, h1⟩ := h
  refine ⟨ao, c, rfl, fun j hj => ?_⟩
  obtain ⟨g, e, c1, c2⟩ := h1 j hj
  exact ⟨g, e, (hb.cell (World.block_lt_of_cell? w _ c1)).trans c1, (hb.cell (World.block_lt_of_cell? w _ c2)).trans c2⟩

theorem HoldsP.nil (w : World) : HoldsP w (.slice none 0 0) [] := ⟨none, 0, rfl, fun j hj => by simp at hj⟩

theorem pairsOwn_at {w : World} {base m : Nat} {ao : Option Addr} {cap : Nat} {l : List (Nat × Int)} (h : w.ownsRow base 54 2 (.slice ao m cap) m (pairCells l)) (k : Nat) (x : Nat × Int) (hk : l[k]? = some x) :
    ∃ g, ao = some ⟨g, 0, none⟩ ∧ w.cell? ⟨g, k * 2, none⟩ = some (.int .i64 (x.1 : Nat)) ∧ w.cell? ⟨g, k * 2 + 1, none⟩ = some (.int .u64 x.2) := by
  have hkl := (List.getElem?_eq_some_iff.1 hk).1
  have hm : l.length = m := by have := h.1; rw [pairCells_len] at this; omega
  obtain ⟨g, cap', e, -, -, -, -⟩ := own_some h (by omega)
  simp only [Value.slice.injEq] at e
  obtain ⟨rfl, -, rfl⟩ := e
  have hsp : l = l.take k ++ x :: l.drop (k + 1) := by
    obtain ⟨h1, h2⟩ := List.getElem?_eq_some_iff.1 hk
    rw [← h2, List.getElem_cons_drop, List.take_append_drop]
  have htk : (l.take k).length = k := by simp; omega
  have hcs : pairCells l = pairCells (l.take k) ++ ([.int .i64 (x.1 : Nat), .int .u64 x.2] ++ pairCells (l.drop (k + 1))) := (congrArg pairCells hsp).trans (pairCells_append _ _)
  refine ⟨g, rfl, ?_, ?_⟩
  · have := h.cells rfl (k * 2) (.int .i64 (x.1 : Nat)) (by rw [hcs, List.getElem?_append_right (by rw [pairCells_len, htk]; omega), pairCells_len, htk, Nat.sub_self]; rfl)
    rwa [Addr.add_lit, Nat.zero_add] at this
  · have := h.cells rfl (k * 2 + 1) (.int .u64 x.2) (by rw [hcs, List.getElem?_append_right (by rw [pairCells_len, htk]; omega), pairCells_len, htk, Nat.add_sub_cancel_left]; rfl)
    rwa [Addr.add_lit, Nat.zero_add] at this

theorem pairs_any2 {w : World} {p : Nat} {D : Nat → Prop} {S : Sh} (h : SheetAt w p D S) (L : List (Nat × Int)) (m : Nat) (hm : m = L.length) (N : Nat) (hN : N = 3128) (hL : L = pairsTo S N) :
    Calls Try.prog 53 #[.pointer (some ⟨p, 0, none⟩)] w fun e w' => ∃ v, e = .returned v ∧ w'.ownsRow w.heap.size 54 2 v m (pairCells L) ∧ Below w.heap.size w w' := by
  subst hm
  subst hL
  exact pairs_anyN h N hN

def plen (S : Sh) (i : Nat) : Nat := (pairsTo S i).length
theorem plen_succ (S : Sh) (i : Nat) : plen S (i + 1) = plen S i + if S.now i = S.beneath i then 0 else 1 := by
  unfold plen
  simp only [pairsTo]
  split <;> simp

set_option maxRecDepth 20000 in
set_option maxHeartbeats 2000000 in
/-- law04's pairs, over a sheet whose words and pairs are the reference's. -/
theorem pairs40 {w : World} {p : Nat} {D : Nat → Prop} {S : Sh} (HS : Hid (SheetAt w p D S)) {v pv : Value} {ws : List Int} {ps : List (Int × Int)} (HV : Hid (HoldsU w v ws)) (HP : Hid (HoldsP w pv ps)) (HLEN : Hid (ps.length < 1099511627776))
    (HNOW : Hid (∀ i : Nat, i < 3128 → refFrom ws ps i ps.length = S.now i)) (HBEN : Hid (∀ i : Nat, i < 3128 → refFrom ws [] i 0 = S.beneath i)) (L : List (Nat × Int)) (m : Nat) (HM : Hid (m = L.length)) (N : Nat) (HN : Hid (N = 3128)) (HL : Hid (L = pairsTo S N))
    (HAT : Hid (∀ i, i < 3128 → S.now i ≠ S.beneath i → plen S i < m ∧ L[plen S i]? = some (i, S.now i))) (HPL : Hid (∀ i, i = 3128 → plen S i = m)) (hm : m ≤ 3128) :
    Calls Try.prog 36 #[.pointer (some ⟨p, 0, none⟩), v, pv] w fun e w' => e = .returned (.bool true) ∧ Below w.heap.size w w' := by
  have HW := Lib.hid (sheet_words HS.out)
  go_enter Try.func36, Try.ntmps36
  go_wp2_with fail
  refine HW.out.mono ?_
  rintro e w1 ⟨v1, rfl, ho1, hb1⟩
  have HS1 := Lib.hid (HS.out.mod (mod_of_below hb1) (fun _ _ h => h))
  have HP1 := Lib.hid (pairs_any2 HS1.out L m HM.out N HN.out HL.out)
  have HO1 := Lib.hid ho1
  have HB1 := Lib.hid hb1
  clear ho1 hb1
  go_wp2_with fail
  refine HP1.out.mono ?_
  rintro e w2 ⟨v2, rfl, ho2, hb2⟩
  have HO1' := Lib.hid ((mod_of_below hb2).own HO1.out (fun _ _ h => h))
  have HO2 := Lib.hid ho2
  have HB2 := Lib.hid (HB1.out.trans (hb2.mono HB1.out.size))
  have HV2 := Lib.hid (HV.out.below HB2.out)
  have HP2 := Lib.hid (HP.out.below HB2.out)
  obtain ⟨g1, c1, rfl, -, -, -, -⟩ := own_some HO1.out (by omega)
  obtain ⟨ao2, c2, rfl, -, -, -⟩ := own_shape ho2
  clear ho2 hb2
  go_wp2_with fail
  go_loopg [9, 10] 3128 (fun g k i wr => ∃ (j : Nat), j + g = 3128 ∧ i = .int .i64 j ∧ k = .int .i64 (plen S j : Nat) ∧ w2 = wr)
  case atStart => exact ⟨0, by omega, rfl, rfl, rfl⟩
  case round =>
    obtain ⟨j, hj, rfl, rfl, rfl⟩ := hrel
    by_cases hlt : j < 3128
    · have HG1 := Lib.hid (ref4_get HV2.out HP2.out HLEN.out j)
      have HG2 := Lib.hid (ref4_get HV2.out (HoldsP.nil w2) (by simp) j)
      rw [HNOW.out j hlt] at HG1
      rw [show ([] : List (Int × Int)).length = 0 from rfl, HBEN.out j hlt] at HG2
      have hat := fun hne => HAT.out j hlt hne
      have HPS := Lib.hid (plen_succ S j)
      have hcw : w2.cell? ⟨g1, j, none⟩ = some (.int .u64 (S.now j)) := by
        rw [HO1'.out.cellAt j hlt]
        unfold u64s
        rw [List.getElem?_map, rowN_get _ _ _ hlt]
        rfl
      generalize hX : S.now j = x at HG1 hat HPS hcw
      generalize S.beneath j = y at HG2 hat HPS
      generalize hK : plen S j = k at hat HPS
      have hxx : (x != x) = false := by simp
      clear hX hK
      by_cases hxy : x = y
      · have hb : (x != y) = false := by simp [hxy]
        have HXY := Lib.hid hxy
        clear hat hxy
        go_wp2_with fail
        refine HG1.out.mono ?_
        rintro e w' ⟨rfl, rfl⟩
        go_wp2_with fail
        refine HG2.out.mono ?_
        rintro e w' ⟨rfl, rfl⟩
        go_wp2
        go_roundg (3128 - (j + 1))
        case measure => omega
        case rel => exact ⟨j + 1, by omega, (by simp), by rw [HPS.out, if_pos HXY.out]; simp, rfl⟩
      · have hb : (x != y) = true := by simpa using hxy
        obtain ⟨hkm, hLk⟩ := hat hxy
        obtain ⟨g2, rfl, hp1, hp2⟩ := pairsOwn_at HO2.out k _ hLk
        simp only at hp1 hp2
        have hjj : ((j : Int) != (j : Int)) = false := by simp
        have HXY := Lib.hid hxy
        clear hat hxy hLk
        go_wp2_with fail
        refine HG1.out.mono ?_
        rintro e w' ⟨rfl, rfl⟩
        go_wp2_with fail
        refine HG2.out.mono ?_
        rintro e w' ⟨rfl, rfl⟩
        go_wp2
        go_roundg (3128 - (j + 1))
        case measure => omega
        case rel => exact ⟨j + 1, by omega, (by simp), by rw [HPS.out, if_neg HXY.out]; simp, rfl⟩
    · obtain rfl : j = 3128 := by omega
      have HPE := Lib.hid (HPL.out 3128 rfl)
      rw [HPE.out]
      go_wp2
      go_ret
      exact ⟨by simp, HB2.out⟩

theorem pairs4 {w : World} {p : Nat} {D : Nat → Prop} {S : Sh} (h : SheetAt w p D S) {v pv : Value} {ws : List Int} {ps : List (Int × Int)} (hv : HoldsU w v ws) (hp : HoldsP w pv ps) (hlen : ps.length < 1099511627776)
    (hnow : ∀ i : Nat, i < 3128 → refFrom ws ps i ps.length = S.now i) (hben : ∀ i : Nat, i < 3128 → refFrom ws [] i 0 = S.beneath i) :
    Calls Try.prog 36 #[.pointer (some ⟨p, 0, none⟩), v, pv] w fun e w' => e = .returned (.bool true) ∧ Below w.heap.size w w' := by
  obtain ⟨N, hN⟩ : ∃ N, N = 3128 := ⟨_, rfl⟩
  exact pairs40 h hv hp hlen hnow hben (pairsTo S N) (pairsTo S N).length rfl N hN rfl
    (fun i hi hne => by have := pairsTo_at S i N (by omega) hne; exact ⟨(List.getElem?_eq_some_iff.1 this).1, this⟩) (fun i hi => by rw [hi, ← hN]; rfl) (by have := pairsTo_len S N; omega)
end Go.Proofs.Ytcbcemeagiociaa
