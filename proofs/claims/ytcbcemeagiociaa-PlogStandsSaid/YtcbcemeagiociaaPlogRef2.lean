/-
  The reference of the journal: whether pairs may be, their commit word, what stands: contracts. No condition but the bounds that are typed.
-/
import Derived.Test.YtcbcemeagiociaaPlogSame
import Derived.StillTailTactics
namespace Go.Proofs.Ytcbcemeagiociaa
open Go.ChangeShapes Go.WideShapes Go.ChangeAt Go.RowKit Go.Maps
set_option linter.unusedSimpArgs false
set_option linter.unusedVariables false

theorem goodP_split (ps : List (Int × Int)) : goodP ps = (decide (ps.length ≤ 400) && !(ps.any fun x => !placeB x.1)) := by
  unfold goodP
  congr 1
  rw [List.not_any_eq_all_not]
  simp

set_option maxRecDepth 20000 in
set_option maxHeartbeats 1000000 in
theorem ref3_good {w : World} {lv : Value} {ps : List (Int × Int)} (hl : HoldsL w lv ps) (hb : ps.length < 1099511627776) :
    Calls Try.prog 93 #[lv] w fun e w' => e = .returned (.bool (goodP ps)) ∧ w = w' := by
  have HG := Lib.hid (goodP_split ps)
  obtain ⟨ao, c, rfl, hlc, hcm, hcell⟩ := hl
  obtain ⟨n, hn⟩ : ∃ n, n = ps.length := ⟨_, rfl⟩
  rw [← hn] at hb hlc hcell HG ⊢
  have HN := Lib.hid hn
  have HC := Lib.hid hcell
  unfold maxLen at hcm
  clear hn hcell
  go_enter Try.func93, Try.ntmps93
  go_wp2
  go_loopg [3] n (fun gk i wr => ∃ (k : Nat), k + gk = n ∧ i = .int .i64 k ∧ Hid ((ps.any fun x => !placeB x.1) = ((ps.drop k).any fun x => !placeB x.1)) ∧ w = wr)
  case atStart => exact ⟨0, by omega, rfl, rfl, rfl⟩
  case round =>
    obtain ⟨k, hk, rfl, HE, rfl⟩ := hrel
    by_cases hlt : k < n
    · obtain ⟨g, o, rfl, e1, -⟩ := HC.out k hlt
      have hE := HE.out
      rw [drop_at (by rw [← HN.out]; exact hlt), List.any_cons] at hE
      generalize (ps.getD k (0, 0)) = x at e1 hE
      obtain ⟨at_, wd⟩ := x
      simp only at e1 hE
      have hpl : placeB at_ = decide (0 ≤ at_ ∧ at_ < 3128 ∧ (at_ < 8 ∨ 816 ≤ at_)) := rfl
      have bad : placeB at_ = false → goodP ps = false := by
        intro h
        rw [HG.out, hE, h]
        simp
      have ok : placeB at_ = true → Hid ((ps.any fun x => !placeB x.1) = ((ps.drop (k + 1)).any fun x => !placeB x.1)) := by
        intro h
        unfold Hid
        rw [hE, h]
        simp
      rcases (show at_ < 0 ∨ (0 ≤ at_ ∧ 3128 ≤ at_) ∨ (0 ≤ at_ ∧ at_ < 3128 ∧ at_ < 8) ∨ (0 ≤ at_ ∧ at_ < 3128 ∧ 8 ≤ at_ ∧ at_ < 816) ∨ (0 ≤ at_ ∧ at_ < 3128 ∧ 8 ≤ at_ ∧ 816 ≤ at_) by omega) with h0 | ⟨h0, h1⟩ | ⟨h0, h1, h2⟩ | ⟨h0, h1, h2, h3⟩ | ⟨h0, h1, h2, h3⟩
      · have hf := Lib.hid (bad (by rw [hpl]; simp; omega))
        clear hE hpl bad ok
        go_wp2
        go_ret
        rw [hf.out]
        exact ⟨rfl, rfl⟩
      · have hf := Lib.hid (bad (by rw [hpl]; simp; omega))
        clear hE hpl bad ok
        go_wp2
        go_ret
        rw [hf.out]
        exact ⟨rfl, rfl⟩
      · have hf := ok (by rw [hpl]; simp; omega)
        clear hE hpl bad ok
        go_wp2
        go_roundg (gk - 1)
        case measure => omega
        case rel => exact ⟨k + 1, by omega, by go_num, hf, rfl⟩
      · have hf := Lib.hid (bad (by rw [hpl]; simp; omega))
        clear hE hpl bad ok
        go_wp2
        go_ret
        rw [hf.out]
        exact ⟨rfl, rfl⟩
      · have hf := ok (by rw [hpl]; simp; omega)
        clear hE hpl bad ok
        go_wp2
        go_roundg (gk - 1)
        case measure => omega
        case rel => exact ⟨k + 1, by omega, by go_num, hf, rfl⟩
    · obtain rfl : k = n := by omega
      have hfin : goodP ps = decide (k ≤ 400) := by
        rw [HG.out, HE.out, List.drop_of_length_le (by have := HN.out; omega)]
        simp
      have HF := Lib.hid hfin
      clear hfin
      by_cases h4 : k ≤ 400
      · go_wp2
        go_ret
        rw [HF.out]
        exact ⟨by simp; omega, rfl⟩
      · have hd : decide (k ≤ 400) = false := by simpa using h4
        go_wp2
        go_ret
        rw [HF.out]
        exact ⟨by simp; omega, rfl⟩

set_option maxRecDepth 20000 in
set_option maxHeartbeats 1000000 in
theorem ref3_mark {w : World} {lv : Value} {ps : List (Int × Int)} (hl : HoldsL w lv ps) (hw : Pos ps) (hb : ps.length < 4294967296) :
    Calls Try.prog 69 #[lv] w fun e w' => e = .returned (.int .u64 (commitW ps)) ∧ Below w.heap.size w w' := by
  obtain ⟨i0, hi0, hz0, hz1, hz2⟩ := info_parts Try.infoU64
  have hsum : ∀ (v' : Value) (w1 : World), HoldsU w1 v' (pairWords ps) → Calls Try.prog 23 #[v'] w1 fun e w' => e = .returned (.int .u32 (sumI (pairWords ps) : Nat)) ∧ w1 = w' := by
    intro v' w1 ho
    refine ref_sum ((pairWords ps).map Int.toNat) ?_ ?_
    · intro x hx
      obtain ⟨z, hz, rfl⟩ := List.mem_map.1 hx
      have := pairWords_mem hw z hz
      omega
    · rw [natInts_toNat _ (fun z hz => (pairWords_mem hw z hz).1)]
      exact ho
  have HS := Lib.hid hsum
  have hfin : commitW ps = (ps.length : Int) * 4294967296 + (sumI (pairWords ps) : Int) := rfl
  have HF := Lib.hid hfin
  have hslt : sumI (pairWords ps) < 4294967296 := PackM.sum_lt _
  generalize sumI (pairWords ps) = s at HS HF hslt
  have HL := Lib.hid hl
  have HW := Lib.hid hw
  obtain ⟨ao, c, rfl, hlc, hcm, -⟩ := hl
  obtain ⟨n, hn⟩ : ∃ n, n = ps.length := ⟨_, rfl⟩
  rw [← hn] at HL hb hlc HF ⊢
  have HN := Lib.hid hn
  have hcell : Hid (∀ wr, Below w.heap.size w wr → ∀ j, j < n → ∃ g o, ao = some ⟨g, o, none⟩ ∧ wr.cell? ⟨g, o + j * 2, none⟩ = some (.int .i64 (ps.getD j (0, 0)).1) ∧ wr.cell? ⟨g, o + j * 2 + 1, none⟩ = some (.int .u64 (ps.getD j (0, 0)).2)) := by
    intro wr hm j hj
    obtain ⟨ao', c', e, -, -, h3⟩ := HL.out.below hm
    rw [← hn] at e h3
    simp only [Value.slice.injEq] at e
    obtain ⟨rfl, -, rfl⟩ := e
    exact h3 j hj
  unfold maxLen at hcm
  clear hw hn hsum hfin
  go_enter Try.func69, Try.ntmps69
  go_wp2
  go_loopg [3, 4] n (fun gk ov i wr => ∃ (k : Nat), k + gk = n ∧ i = .int .i64 k ∧ Hid (wr.ownsRow w.heap.size 26 1 ov (2 * k) (u64s (pairWords (ps.take k)))) ∧ Hid (Below w.heap.size w wr))
  case atStart => exact ⟨0, by omega, rfl, World.ownsRow_nil _ _ _ _, Below.refl _ _⟩
  case round =>
    obtain ⟨k, hk, rfl, HO, HB⟩ := hrel
    by_cases hlt : k < n
    · obtain ⟨g, o, rfl, e1, e2⟩ := hcell.out wr HB.out k hlt
      have hgl : g < w.heap.size := by
        obtain ⟨g', o', e, e3, -⟩ := hcell.out w (Below.refl _ _) k hlt
        cases e
        exact World.block_lt_of_cell? (a := ⟨g, o + k * 2, none⟩) w e3
      have hmem := HW.out _ (getD_mem (by rw [← HN.out]; exact hlt))
      have HSN := Lib.hid (take_snoc' (0, 0) (l := ps) (k := k) (by rw [← HN.out]; exact hlt))
      generalize ps.getD k (0, 0) = x at e1 e2 hmem HSN
      obtain ⟨at_, wd⟩ := x
      simp only at e1 e2 hmem
      obtain ⟨⟨ha0, ha1⟩, hwd0, hwd1⟩ := hmem
      have hconv : IntKind.u64.wrap at_ = at_ := by rw [IntKind.wrap_u64]; omega
      have hbs := HB.out.size
      have hk0 : (0 : Int) ≤ (k : Int) := Int.natCast_nonneg _
      have hk1 : (k : Int) < (n : Int) := by omega
      go_wp2_with fail
      go_region_held3 (fun w' => w'.cell? ⟨g, o + k * 2, none⟩ = some (.int .i64 at_) ∧ w'.cell? ⟨g, o + k * 2 + 1, none⟩ = some (.int .u64 wd))
        (first
          | go_keep
          | exact ⟨HX.cell e1 hng, HX.cell e2 hng⟩)
        (first
          | (refine step_append_any (by rfl) (.tmp 11) (.tmp 23) _ (by rfl) w.heap.size 26 i0 _ 1 8 Try.underlying24 hi0 hz0 hz1 hz2 rfl (by omega) _ (2 * k) (u64s (pairWords (ps.take k))) (by rfl) (Mod.own (D := nob) (w := wr) ?_ HO.out (fun _ _ h => h)) (.slice (some ⟨wr.heap.size, 0, none⟩) 2 2) 2 [.int .u64 at_, .int .u64 wd] (by rfl) (HoldsC.block (cs := #[.int .u64 at_, .int .u64 wd]) (t := 26) (fr := (0, 0)) ?_ (by unfold maxLen; omega)) (by rfl) (by simp [Value.oneCell']) (by unfold maxLen; omega) (by omega) ?_ ?_
             · repeat (first | exact Mod.refl _ _ | refine Mod.drew ?_ | refine Mod.alloc ?_ _)
             · first | exact heap_alloc_new _ _ | exact heap_new1 _ _ _ | exact heap_new0 _ _ _
             · first | omega | (simp; done) | (simp; omega)
             intro v' w1 hown1 hgrow hat
             have HX : Mod (fun b => u3.ownBlock = some b) wr w1 := (((Mod.refl _ wr).alloc _).drew).step (mod_of_grown hgrow) (fun _ h => h)
             have hng : ¬ u3.ownBlock = some g := fun e => by have := own_ge HO.out g e; omega))
      all_goals
        have HO1 : Hid (w1.ownsRow w.heap.size 26 1 v' (2 * (k + 1)) (u64s (pairWords (ps.take (k + 1))))) := by
          rw [HSN.out, pairWords_snoc, u64s_append]
          exact hown1
        have HB1 : Hid (Below w.heap.size w w1) := HB.out.trans (HX.below hbs (fun b hb => own_ge HO.out b hb))
        clear hown1 hgrow hat HX hng
        go_wp2_with fail
        go_roundg (gk - 1)
        case measure => omega
        case rel => exact ⟨k + 1, by omega, by go_num, HO1, HB1⟩
    · obtain rfl : k = n := by omega
      have h1 := HO.out
      rw [List.take_of_length_le (by have := HN.out; omega)] at h1
      have HU : Hid (HoldsU wr u3 (pairWords ps)) := holdsU_of_own (by rw [pairWords_len, ← HN.out]; exact h1)
      have HS1 := Lib.hid (HS.out _ _ HU.out)
      obtain ⟨ao3, cap3, rfl, -, -, -⟩ := own_shape h1
      have hs0 : (0 : Int) ≤ (s : Int) := Int.natCast_nonneg _
      clear h1
      go_wp2_with fail
      refine HS1.out.mono ?_
      rintro e w2 ⟨rfl, rfl⟩
      go_wp2
      go_ret
      rw [HF.out]
      exact ⟨rfl, HB.out⟩
end Go.Proofs.Ytcbcemeagiociaa
