/-
  fmt2.names: a contract. No condition but the bounds that are typed.
-/
import Derived.Test.YtlopdbhjdijlmaaQIns2

namespace Go.Proofs.Ytlopdbhjdijlmaa
open Go.ChangeShapes Go.WideShapes Go.ChangeAt Go.RowKit
set_option linter.unusedSimpArgs false
set_option linter.unusedVariables false

def namesStep2 (S : Sh) (at_ : Nat) (k : Nat) (r : List En × List Nat) : Option (List En × List Nat) :=
  (chain2 S (numI (S.get ((at_ : Int) + 2 + (k : Int))))).bind fun q => if 24 < r.1.length + q.1.length then none else some (q.1.foldl insL r.1, r.2 ++ q.2)
def names2To (S : Sh) (at_ : Nat) : Nat → Option (List En × List Nat)
  | 0 => some ([], [])
  | k + 1 => (names2To S at_ k).bind (namesStep2 S at_ k)

theorem names2To_none {S : Sh} {at_ : Nat} {k : Nat} (h : names2To S at_ k = none) : ∀ m, k ≤ m → names2To S at_ m = none := by
  intro m
  induction m with
  | zero => intro hk; have : k = 0 := by omega
            subst this; exact h
  | succ m ih =>
    intro hk
    by_cases e : k = m + 1
    · subst e; exact h
    · simp only [names2To]
      rw [ih (by omega)]
      rfl

theorem chainC_len (S : Sh) : ∀ (f b : Nat) (out : List En) (own : List Nat) (r : List En × List Nat), chainC S f b out own = some r → r.1.length ≤ out.length + 3 * f ∧ r.2.length ≤ own.length + f := by
  intro f
  induction f with
  | zero => intro b out own r h; simp only [chainC] at h; cases h
  | succ f ih =>
    intro b out own r h
    simp only [chainC] at h
    split at h
    · simp only [Option.some.injEq] at h
      rw [← h]
      dsimp only
      exact ⟨by omega, by omega⟩
    · split at h
      · cases h
      · cases he : entsC S b 3 0 out with
        | none => rw [he] at h; cases h
        | some out2 =>
          rw [he, Option.bind_some] at h
          have h1 := ih _ _ _ _ h
          have h2 := entsC_len S b 3 0 out out2 he
          rw [List.length_append, List.length_singleton] at h1
          exact ⟨by omega, by omega⟩
theorem chain2_len {S : Sh} {b : Nat} {r : List En × List Nat} (h : chain2 S b = some r) : r.1.length ≤ 78 ∧ r.2.length ≤ 26 := by
  have := chainC_len S 26 b [] [] r h
  simpa using this

theorem foldl_ins_len (l : List En) : ∀ (out : List En), (l.foldl insL out).length = out.length + l.length := by
  induction l with
  | nil => intro out; rfl
  | cons x l ih => intro out; rw [List.foldl_cons, ih, insL_len, List.length_cons]; omega

theorem NamesR.fresh {w wr w2 w3 : World} {v9 v10 v' : Value} {out out' : List En} {own : List Nat} (h : NamesR w wr v9 v10 out own) (h2 : Below wr.heap.size wr w2) (h3 : Below w2.heap.size w2 w3) (hown : w3.ownsRow w2.heap.size 27 2 v' out'.length (enC out')) : NamesR w w3 v' v10 out' own := by
  have h12 : wr.heap.size ≤ w2.heap.size := h2.size
  have hm := (h.below h2).below h3
  refine ⟨own_base hown (by have := h.bel.size; omega), hm.o10, ?_, hm.bel⟩
  intro g hg e
  have h4 := own_ge hown g hg
  have h5 := own_lt h.o10 e
  omega
theorem NamesR.join {w wr w3 : World} {v9 v10 v' : Value} {out : List En} {own bs : List Nat} (h : NamesR w wr v9 v10 out own) (hown : w3.ownsRow w.heap.size 3 1 v' (own.length + bs.length) (nums own ++ nums bs)) (hgr : wr.grownBy w3 v10.ownBlock)
    (hat : v'.ownBlock = v10.ownBlock ∨ v'.ownBlock = some wr.heap.size) : NamesR w w3 v9 v' out (own ++ bs) := by
  have hm : Mod (fun k => v10.ownBlock = some k) wr w3 := mod_of_grown hgr
  refine ⟨hm.own h.o9 (fun g hg e => h.ap g hg e), ?_, ?_, ?_⟩
  · rw [List.length_append]
    have e : nums (own ++ bs) = nums own ++ nums bs := by unfold nums; rw [List.map_append]
    rw [e]; exact hown
  · intro g hg e
    have := own_lt h.o9 hg
    rcases hat with h1 | h1
    · exact h.ap g hg (by rw [← h1]; exact e)
    · rw [h1] at e; cases e; omega
  · exact h.bel.trans (hm.below h.bel.size (fun b hb => own_ge h.o10 b hb))

theorem foldl_take {l : List En} (out : List En) (k : Nat) (hk : k < l.length) : (l.take (k + 1)).foldl insL out = insL ((l.take k).foldl insL out) (l.getD k default) := by
  rw [List.take_succ_eq_append_getElem hk, List.foldl_append, List.getD_eq_getElem?_getD, List.getElem?_eq_getElem hk]
  rfl

set_option maxRecDepth 20000 in
set_option maxHeartbeats 8000000 in
theorem names2_any {w : World} {p : Nat} {D : Nat → Prop} {S : Sh} (h : SheetAt w p D S) (at_ : Nat) (ha : at_ ≤ 3000) :
    Calls Try.prog 100 #[.pointer (some ⟨p, 0, none⟩), .int .i64 (at_ : Nat)] w (ChainPost w (names2To S at_ 4)) := by
  obtain ⟨i0, hi0, hz0, hz1, hz2⟩ := info_parts infoInt
  have HG : Hid (∀ (wx : World), Mod nob w wx → ∀ i : Int, Calls Try.prog 37 #[.pointer (some ⟨p, 0, none⟩), .int .i64 i] wx fun e w' => e = .returned (.int .u64 (S.get i)) ∧ wx = w') := fun wx hm i => sheet_get (h.mod hm (fun _ _ h => h)) i
  have HCH : Hid (∀ (wx : World), Mod nob w wx → ∀ b : Nat, b < 256 → Calls Try.prog 124 #[.pointer (some ⟨p, 0, none⟩), .int .i64 (b : Nat)] wx (ChainPost wx (chain2 S b))) := fun wx hm b hb => chain2_any (h.mod hm (fun _ _ h => h)) b hb
  have HOK := Lib.hid h.ok
  clear h
  go_enter Try.func100, Try.ntmps100
  go_wp2_with fail
  go_loopg [7, 8, 9, 10, 11, 12, 14, 15] 4 (fun gk ev ov _ _ _ _ _ iv wr => ∃ (k : Nat) (out : List En) (own : List Nat), k + gk = 4 ∧ iv = .int .i64 k ∧ Hid (names2To S at_ k = some (out, own)) ∧ Hid (NamesR w wr ev ov out own) ∧ out.length ≤ 24 ∧ own.length ≤ 26 * k)
  case atStart => exact ⟨0, [], [], by omega, rfl, rfl, NamesR.start w, by simp, by simp⟩
  case round =>
    obtain ⟨k, out, own, hk, rfl, HNT, HNR, hout, hown⟩ := hrel
    have HBE := Lib.hid HNR.out.bel
    have HMW : Hid (Mod nob w wr) := mod_of_below HNR.out.bel
    obtain ⟨va, vc, rfl, v1, v2, -⟩ := own_shape HNR.out.o9
    obtain ⟨oa, oc, rfl, o1, o2, -⟩ := own_shape HNR.out.o10
    obtain ⟨n1, hn1⟩ : ∃ n1, n1 = out.length := ⟨_, rfl⟩
    obtain ⟨n2, hn2⟩ : ∃ n2, n2 = own.length := ⟨_, rfl⟩
    rw [← hn1] at v1 HNR hout ⊢
    rw [← hn2] at o1 HNR hown ⊢
    unfold maxLen at o2 v2
    have HN1 := Lib.hid hn1
    have HN2 := Lib.hid hn2
    clear hn1 hn2
    by_cases hlt : k < 4
    · have hki : (k : Int) < 4 := by omega
      have hk0 : (0 : Int) ≤ (k : Int) := Int.natCast_nonneg _
      have hstep : names2To S at_ (k + 1) = namesStep2 S at_ k (out, own) := by
        simp only [names2To]
        rw [HNT.out]
        rfl
      have HSTEP := Lib.hid hstep
      have hxr := HOK.out.get ((at_ : Int) + 2 + (k : Int))
      have HGX := Lib.hid (HG.out wr HMW.out ((at_ : Int) + 2 + (k : Int)))
      have hns : namesStep2 S at_ k (out, own) = (chain2 S (numI (S.get ((at_ : Int) + 2 + (k : Int))))).bind fun q => if 24 < out.length + q.1.length then none else some (q.1.foldl insL out, own ++ q.2) := rfl
      obtain ⟨x, hx⟩ : ∃ x, x = S.get ((at_ : Int) + 2 + (k : Int)) := ⟨_, rfl⟩
      rw [← hx] at HGX hxr hns
      have HNS := Lib.hid hns
      have HNU := Lib.hid (fun wx => number2_any x hxr.1 hxr.2 wx)
      have HCX := Lib.hid (HCH.out wr HMW.out (numI x) (numI_lt x))
      clear hx hxr hstep hns
      cases hch : chain2 S (numI x) with
      | none =>
        rw [hch] at HCX HNS
        have HNO : Hid (names2To S at_ 4 = none) := names2To_none (by rw [HSTEP.out, HNS.out]; rfl) 4 (by omega)
        clear hch
        go_wp2_with fail
        refine HGX.out.mono ?_
        rintro e w4 ⟨rfl, rfl⟩
        go_wp2_with fail
        refine (HNU.out _).mono ?_
        rintro e w4 ⟨rfl, rfl⟩
        go_wp2_with fail
        refine HCX.out.mono ?_
        rintro e w4 ⟨hb4, rfl⟩
        have HB4 := Lib.hid hb4
        clear hb4
        go_wp2_with fail
        refine bodyPost_ret (v := .tuple #[.slice none 0 0, .slice none 0 0, .bool false]) (by simp [results, Try.results100, go_sem]) rfl ?_
        unfold ChainPost
        rw [HNO.out]
        exact ⟨HBE.out.trans (HB4.out.mono HBE.out.size), rfl⟩
      | some q =>
        obtain ⟨l, bs⟩ := q
        rw [hch] at HCX HNS
        have hcl := chain2_len hch
        dsimp only at hcl
        obtain ⟨m1, hm1⟩ : ∃ m1, m1 = l.length := ⟨_, rfl⟩
        obtain ⟨m2, hm2⟩ : ∃ m2, m2 = bs.length := ⟨_, rfl⟩
        rw [← hm1, ← hm2] at hcl
        have HM1 := Lib.hid hm1
        have HM2 := Lib.hid hm2
        obtain ⟨c1, c2⟩ := hcl
        clear hch hm1 hm2
        go_wp2_with fail
        refine HGX.out.mono ?_
        rintro e w4 ⟨rfl, rfl⟩
        go_wp2_with fail
        refine (HNU.out _).mono ?_
        rintro e w4 ⟨rfl, rfl⟩
        go_wp2_with fail
        refine HCX.out.mono ?_
        rintro e w4 ⟨hb4, lv, bv, rfl, hnr4⟩
        have HB4 := Lib.hid hb4
        have HR4 := Lib.hid hnr4
        have HNR4 := Lib.hid (HNR.out.below hb4)
        obtain ⟨la, lc, rfl, l1, l2, -⟩ := own_shape HR4.out.o9
        obtain ⟨ba, bc, rfl, b1, b2, -⟩ := own_shape HR4.out.o10
        rw [← HM1.out] at l1 HR4 ⊢
        rw [← HM2.out] at b1 HR4 ⊢
        unfold maxLen at l2 b2
        clear hb4 hnr4
        by_cases hbig : 24 < n1 + m1
        · have hbigi : (24 : Int) < (n1 : Int) + (m1 : Int) := by omega
          have HNO : Hid (names2To S at_ 4 = none) := names2To_none (k := k + 1) (by rw [HSTEP.out, HNS.out, Option.bind_some]; dsimp only; rw [if_pos (by rw [← HN1.out, ← HM1.out]; exact hbig)]) 4 (by omega)
          go_wp2_with fail
          refine bodyPost_ret (v := .tuple #[.slice none 0 0, .slice none 0 0, .bool false]) (by simp [results, Try.results100, go_sem]) rfl ?_
          unfold ChainPost
          rw [HNO.out]
          exact ⟨HBE.out.trans (HB4.out.mono HBE.out.size), rfl⟩
        · have hbigi : ¬ (24 : Int) < (n1 : Int) + (m1 : Int) := by omega
          have HNX : Hid (names2To S at_ (k + 1) = some (l.foldl insL out, own ++ bs)) := by
            unfold Hid
            rw [HSTEP.out, HNS.out, Option.bind_some]
            dsimp only
            rw [if_neg (by rw [← HN1.out, ← HM1.out]; exact hbig)]
          have HHL : Hid (HoldsE w4 (.slice la m1 lc) l) := by
            have := HR4.out.o9
            rw [← HM1.out] at this
            exact holdsE_of_own HM1.out this
          have HHB : Hid (HoldsC w4 (.slice ba m2 bc) m2 (nums bs)) := by
            have := HR4.out.o10
            rw [← HM2.out] at this
            exact HoldsC.of_own this
          clear HGX HCX HNU HSTEP HNS HR4
          go_upto_block 2 with (fail)
          go_cut [7, 12, 14, 43] (fun v7 _ _ _ wc => ∃ ev : Value, ev = v7 ∧ Hid (NamesR w wc ev (.slice oa n2 oc) (l.foldl insL out) own) ∧ Hid (Mod nob w4 wc))
          case first =>
            go_wp2_with fail
            go_loopg [7, 14, 43] m1 (fun gk ev _ iv wx => ∃ j : Nat, j + gk = m1 ∧ iv = .int .i64 j ∧ Hid (NamesR w wx ev (.slice oa n2 oc) ((l.take j).foldl insL out) own) ∧ Hid (Mod nob w4 wx))
            case atStart => exact ⟨0, by omega, rfl, HNR4.out, Mod.refl _ _⟩
            case round =>
              obtain ⟨j, hj, rfl, HNJ, HMJ⟩ := hrel
              have HFL : Hid (((l.take j).foldl insL out).length = n1 + j) := by unfold Hid; rw [foldl_ins_len, List.length_take, ← HN1.out, ← HM1.out]; omega
              have HHJ := Lib.hid (HHL.out.mod HMJ.out (fun _ _ _ h => h))
              obtain ⟨ja, jc, rfl, j1, j2, -⟩ := own_shape HNJ.out.o9
              rw [HFL.out] at j1 HNJ ⊢
              unfold maxLen at j2
              by_cases hjl : j < m1
              · have hji : (j : Int) < (m1 : Int) := by omega
                obtain ⟨ao', c', e, -, -, -, hcell⟩ := HHJ.out
                simp only [Value.slice.injEq] at e
                obtain ⟨rfl, -, rfl⟩ := e
                obtain ⟨g, o, rfl, d1, d2⟩ := hcell j (by rw [← HM1.out]; exact hjl)
                have hft := foldl_take out j (show j < l.length by rw [← HM1.out]; exact hjl)
                obtain ⟨x, hx⟩ : ∃ x, x = l.getD j default := ⟨_, rfl⟩
                rw [← hx] at d1 d2 hft
                have HFT := Lib.hid hft
                have HEJ : Hid (HoldsE wr (.slice ja (n1 + j) jc) ((l.take j).foldl insL out)) := by
                  have := HNJ.out.o9
                  rw [HFL.out] at this
                  exact holdsE_of_own HFL.out.symm this
                obtain ⟨xn, xi⟩ := x
                dsimp only at d1 d2
                clear hcell hft hx
                go_upto_region 12 with (fail)
                have hx14 : (wr.alloc (.cells #[.string xn, .int .i64 xi] 27)).heap[wr.heap.size]? = some (.cells #[.string xn, .int .i64 xi] 27 (0, 0)) := heap_alloc_new _ _
                have HBA : Hid (Below wr.heap.size wr (wr.alloc (.cells #[.string xn, .int .i64 xi] 27))) := (Below.refl _ _).alloc (Nat.le_refl _) _
                have HMA : Hid (Mod nob w4 (wr.alloc (.cells #[.string xn, .int .i64 xi] 27))) := HMJ.out.alloc _
                obtain ⟨X, hX⟩ : ∃ X, X = wr.heap.size := ⟨_, rfl⟩
                have HXB : Hid (X = wr.heap.size) := hX
                rw [← hX] at hx14 ⊢
                clear hX
                generalize wr.alloc (.cells #[.string xn, .int .i64 xi] 27) = w5 at *
                have e0 : w5.cell? ⟨X, 0, none⟩ = some (.string xn) := by rw [cell_of_row _ _ _ _ _ _ hx14]; rfl
                have e1 : w5.cell? ⟨X, 1, none⟩ = some (.int .i64 xi) := by rw [cell_of_row _ _ _ _ _ _ hx14]; rfl
                have HIN := Lib.hid (insert_any ⟨xn, xi⟩ (HEJ.out.below HBA.out) (by rw [HFL.out]; omega))
                dsimp only at HIN
                clear hx14 d1 d2
                go_wp2_with fail
                refine HIN.out.mono ?_
                rintro e w6 ⟨v', rfl, hown6, hb6⟩
                have HNF : Hid (NamesR w w6 v' (.slice oa n2 oc) ((l.take (j + 1)).foldl insL out) own) := by
                  refine HNJ.out.fresh HBA.out hb6 ?_
                  rw [HFT.out, insL_len]
                  exact hown6
                have HM6 : Hid (Mod nob w4 w6) := HMA.out.step (mod_of_below hb6) (fun _ h => h)
                clear hown6 hb6
                obtain ⟨fa, fc, rfl, -, -, -⟩ := own_shape HNF.out.o9
                go_wp2_with fail
                go_roundg (gk - 1)
                case measure => omega
                case rel => exact ⟨j + 1, by omega, by go_num, HNF.out, HM6.out⟩
              · have hge : ¬ (j : Int) < (m1 : Int) := by omega
                have hfin : l.take j = l := List.take_of_length_le (by rw [← HM1.out]; omega)
                rw [hfin] at HNJ
                clear hfin
                go_wp2_with fail
                go_meet
                case rel => exact ⟨_, rfl, HNJ, HMJ⟩
          case rest =>
            obtain ⟨ev, rfl, HNC, HMC⟩ := hcut
            have HHB2 := Lib.hid (HHB.out.mod HMC.out (fun _ _ h => h))
            have HO8 : Hid (wc.ownsRow w.heap.size 3 1 (.slice oa n2 oc) n2 (nums own)) := by
              have := HNC.out.o10
              rw [← HN2.out] at this
              exact this
            have hwc := HNC.out.bel.size
            go_wp2_with (at_builtin; refine wpList_append_any rfl (.tmp 51) (.tmp 52) 56 rfl w.heap.size 3 i0 (.int .i64 0) 1 8 Try.underlying56 hi0 hz0 hz1 hz2 rfl (by decide) _ n2 (nums own) rfl HO8.out _ m2 (nums bs) rfl HHB2.out (by rw [nums_len, ← HM2.out]; omega) (nums_one _) (by unfold maxLen; omega) (by omega) hwc ?_)
            intro v' w6 hown6 hgr hat
            have HNJ : Hid (NamesR w w6 ev v' (l.foldl insL out) (own ++ bs)) := by
              refine HNC.out.join (bs := bs) ?_ hgr hat
              rw [← HN2.out, ← HM2.out]
              exact hown6
            obtain ⟨xa, xc, rfl, -, -, -⟩ := own_shape hown6
            clear hown6 hgr hat
            go_wp2_with fail
            go_roundg (gk - 1)
            case measure => omega
            case rel => exact ⟨k + 1, l.foldl insL out, own ++ bs, by omega, by go_num, HNX, HNJ, by rw [foldl_ins_len, ← HN1.out, ← HM1.out]; omega, by rw [List.length_append, ← HN2.out, ← HM2.out]; omega⟩
    · obtain rfl : k = 4 := by omega
      have hge : ¬ ((4 : Nat) : Int) < 4 := by omega
      go_wp2_with fail
      refine bodyPost_ret (v := .tuple #[_, _, .bool true]) (by simp [results, Try.results100, go_sem]; exact ⟨rfl, rfl⟩) rfl ?_
      unfold ChainPost
      rw [HNT.out]
      exact ⟨HBE.out, _, _, rfl, by rw [HN1.out, HN2.out] at HNR; rw [HN1.out, HN2.out]; exact HNR.out⟩
end Go.Proofs.Ytlopdbhjdijlmaa
