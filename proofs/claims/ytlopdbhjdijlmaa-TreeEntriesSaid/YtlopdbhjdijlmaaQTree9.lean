/-
  tree.Find, tree.With, tree.Without, imagoref09.Find: contracts. No condition but the bounds that are typed.
-/
import Derived.Test.YtlopdbhjdijlmaaQSrch9
import Derived.Test.YtlopdbhjdijlmaaQDel9
import Derived.Test.YtlopdbhjdijlmaaQLay1

namespace Go.Proofs.Ytlopdbhjdijlmaa
open Go.ChangeShapes Go.WideShapes Go.ChangeAt Go.RowKit
set_option linter.unusedSimpArgs false
set_option linter.unusedVariables false

/-- The number of a name; 0: none is there. -/
def findE (l : List En) (t : ByteArray) : Int := if hasE l t = true then (l.getD (lowE l t) default).ino else 0
def withE (l : List En) (x : En) : List En := if hasE l x.name = true then l.set (lowE l x.name) x else putE l (lowE l x.name) x
def entsI (n : Ino) (l : List En) : Ino := { n with ents := l, size := (l.length : Int) }

theorem low_le (l : List En) (t : ByteArray) : lowE l t ≤ l.length := insK_le _ _
theorem has_low {l : List En} {t : ByteArray} (h : hasE l t = true) : lowE l t < l.length ∧ (l.getD (lowE l t) default).name = t := by
  unfold hasE at h
  rw [Bool.and_eq_true] at h
  exact ⟨of_decide_eq_true h.1, (cmpN_eq _ _).1 (of_decide_eq_true h.2)⟩

set_option maxRecDepth 20000 in
set_option maxHeartbeats 1000000 in
theorem find9 {w : World} {n : Ino} {ev : Value} (t : ByteArray) (hn : n.bl.length = 13) (he : HoldsE w ev n.ents) (hl : n.ents.length ≤ 1000) (hs : SortE n.ents) :
    Calls Try.prog 13 #[.agg (inoA n ev), .string t] w fun e w' => e = .returned (.tuple #[.int .i64 (findE n.ents t), .bool (hasE n.ents t)]) ∧ Below w.heap.size w w' := by
  have HB : Hid (Below w.heap.size w (w.alloc (.cells (inoA n ev) 25))) := (Below.refl _ _).alloc (Nat.le_refl _) _
  have HI : Hid (InoB (w.alloc (.cells (inoA n ev) 25)) w.heap.size n ev) := InoB.new w hn ev
  have HE := Lib.hid (he.below HB.out)
  have HC := Lib.hid (search_any t HE.out (by omega) hs)
  have HLW := Lib.hid (low_le n.ents t)
  have HHL : Hid (hasE n.ents t = true → lowE n.ents t < n.ents.length) := fun h => (has_low h).1
  have HF : Hid (findE n.ents t = if hasE n.ents t = true then (n.ents.getD (lowE n.ents t) default).ino else 0) := rfl
  obtain ⟨ao, c, rfl, e1, e2, -, -⟩ := he
  have cv : (w.alloc (.cells (inoA n (.slice ao n.ents.length c)) 25)).cell? ⟨w.heap.size, 17, none⟩ = some (.slice ao n.ents.length c) := by
    have := HI.out.at.ev
    rwa [Nat.zero_add] at this
  obtain ⟨k, hk⟩ : ∃ k, k = lowE n.ents t := ⟨_, rfl⟩
  obtain ⟨f, hf⟩ : ∃ f, f = hasE n.ents t := ⟨_, rfl⟩
  obtain ⟨L, hL⟩ : ∃ L, L = n.ents.length := ⟨_, rfl⟩
  rw [← hk, ← hf] at HC HHL HF
  rw [← hf, HF.out]
  rw [← hL] at HHL e1 hl cv HI HC HE HB ⊢
  have HL := Lib.hid hL
  clear hk hf hs HF hL HLW
  unfold maxLen at e2
  cases f with
  | false =>
    go_enter Try.func13, Try.ntmps13
    go_wp2_with fail
    refine HC.out.mono ?_
    rintro e w1 ⟨rfl, hb1⟩
    have HB1 : Hid (Below w.heap.size w w1) := HB.out.trans (hb1.mono HB.out.size)
    clear hb1
    go_wp2_with fail
    go_ret2
    exact ⟨rfl, HB1.out⟩
  | true =>
    have hkL := HHL.out rfl
    have hki : (k : Int) < (L : Int) := by omega
    go_enter Try.func13, Try.ntmps13
    go_wp2_with fail
    refine HC.out.mono ?_
    rintro e w1 ⟨rfl, hb1⟩
    have HB1 : Hid (Below w.heap.size w w1) := HB.out.trans (hb1.mono HB.out.size)
    have cv1 : w1.cell? ⟨w.heap.size, 17, none⟩ = some (.slice ao L c) := (mod_of_below hb1).cell cv (fun h => h)
    obtain ⟨ao', c', e, -, -, -, hcell⟩ := HE.out.below hb1
    rw [← HL.out] at e
    simp only [Value.slice.injEq] at e
    obtain ⟨rfl, -, rfl⟩ := e
    obtain ⟨g, o, rfl, -, d2⟩ := hcell k (by rw [← HL.out]; exact hkL)
    clear hb1 hcell cv
    go_wp2_with fail
    go_ret2
    exact ⟨rfl, HB1.out⟩

theorem own_mono {w : World} {b b' : Nat} {e : TypeId} {size : Nat} {v : Value} {n : Nat} {xs : List Value} (h : w.ownsRow b e size v n xs) (hb : b' ≤ b) : w.ownsRow b' e size v n xs := by
  refine ⟨h.1, ?_⟩
  rcases h.2 with h0 | ⟨g, cap, cur, h1, h2, h3⟩
  · exact .inl h0
  · exact .inr ⟨g, cap, cur, h1, by omega, h3⟩

/-- An entry of an own row is set. -/
theorem own_set {w : World} {b : Nat} {g c : Nat} {l : List En} {L : Nat} (hL : L = l.length) (h : w.ownsRow b 27 2 (.slice (some ⟨g, 0, none⟩) L c) L (enC l)) (k : Nat) (hk : k < L) (x : En) :
    w.there g (k * 2) 2 ∧ (w.setCells g (k * 2) [.string x.name, .int .i64 x.ino]).ownsRow b 27 2 (.slice (some ⟨g, 0, none⟩) L c) L (enC (l.set k x)) := by
  rcases h.2 with ⟨h0, _⟩ | ⟨g', cap, cur, h1, hbg, hg, hnc, hcm, hcs, htk⟩
  · simp at h0
  · simp only [Value.slice.injEq, Option.some.injEq, Addr.mk.injEq, and_true, true_and] at h1
    obtain ⟨rfl, rfl⟩ := h1
    obtain ⟨S, hS⟩ : ∃ S, S = cur.toList.drop (L * 2) := ⟨_, rfl⟩
    have hsp := enC_split l k (by omega)
    have hcur : cur = (enC (l.take k) ++ ([Value.string (l.getD k default).name, .int .i64 (l.getD k default).ino] ++ (enC (l.drop (k + 1)) ++ S))).toArray := by
      have e : cur.toList = enC l ++ S := by rw [← htk, hS, List.take_append_drop]
      rw [hsp, List.append_assoc, List.append_assoc] at e
      rw [← e, Array.toArray_toList]
    have hSl : S.length = (c - L) * 2 := by rw [hS, List.length_drop, Array.length_toList, hcs, ← Nat.sub_mul]
    rw [hcur] at hg
    have hpl : (enC (l.take k)).length = k * 2 := by rw [enC_len, List.length_take]; congr 1; omega
    have hset : enC (l.set k x) = enC (l.take k) ++ ([.string x.name, .int .i64 x.ino] ++ enC (l.drop (k + 1))) := by
      rw [List.set_eq_take_append_cons_drop, if_pos (by omega), enC_append]
      rfl
    have hlen : (enC (l.set k x)).length = L * 2 := by rw [enC_len, List.length_set, hL]
    have hr := heap_setCells_mid g 27 [Value.string x.name, .int .i64 x.ino] (enC (l.take k)) [.string (l.getD k default).name, .int .i64 (l.getD k default).ino] (enC (l.drop (k + 1)) ++ S) w hg rfl
    rw [hpl] at hr
    have hrow : enC (l.take k) ++ ([Value.string x.name, .int .i64 x.ino] ++ (enC (l.drop (k + 1)) ++ S)) = enC (l.set k x) ++ S := by rw [hset]; simp only [List.append_assoc]
    rw [hrow] at hr
    refine ⟨fun j hj => ⟨?_, frozen_of_row _ _ _ _ _ hg⟩, hlen, .inr ⟨g, c, _, rfl, hbg, hr, hnc, hcm, ?_, ?_⟩⟩
    · rw [cell_of_row _ _ _ _ _ _ hg, Array.getElem?_eq_getElem (show k * 2 + j < _ by rw [List.size_toArray, List.length_append, List.length_append, hpl]; simp only [List.length_cons, List.length_nil]; omega)]
      rfl
    · rw [List.size_toArray, List.length_append, hlen, hSl, ← Nat.add_mul]; congr 1; omega
    · show ((enC (l.set k x) ++ S).take (L * 2)) = _
      rw [← hlen, List.take_left]

/-- An inode's cells do not say its entries. -/
theorem inoA_ents (n : Ino) (l : List En) (s : Int) (ev : Value) : inoA { n with size := s } ev = inoA { n with ents := l, size := s } ev := rfl

set_option maxRecDepth 20000 in
set_option maxHeartbeats 4000000 in
theorem with9 {w : World} {n : Ino} {ev : Value} (x : En) (hn : n.bl.length = 13) (he : HoldsE w ev n.ents) (hl : n.ents.length ≤ 999) (hs : SortE n.ents) :
    Calls Try.prog 14 #[.agg (inoA n ev), .agg #[.string x.name, .int .i64 x.ino]] w fun e w' => ∃ v', e = .returned (.agg (inoA (entsI n (withE n.ents x)) v')) ∧ w'.ownsRow w.heap.size 27 2 v' (withE n.ents x).length (enC (withE n.ents x)) ∧ Below w.heap.size w w' := by
  obtain ⟨i1, hi1, hy0, hy1, hy2⟩ := info_parts Try.infoEntry9
  obtain ⟨nm, ino⟩ := x
  dsimp only
  have hb1 : InoB (((w.alloc (.cells (inoA n ev) 25)).alloc (.cells #[.string nm, .int .i64 ino] 27)).alloc (.cells z18 25)) w.heap.size n ev := ((InoB.new w hn ev).mod ((Mod.refl nob _).alloc _) (fun h => h)).mod ((Mod.refl nob _).alloc _) (fun h => h)
  have hb2 : (((w.alloc (.cells (inoA n ev) 25)).alloc (.cells #[.string nm, .int .i64 ino] 27)).alloc (.cells z18 25)).heap[w.heap.size + 1]? = some (.cells #[.string nm, .int .i64 ino] 27 (0, 0)) := ((Mod.refl nob _).alloc _).heap (heap_new1 w _ _) (fun h => h)
  have hb3 : InoB (((w.alloc (.cells (inoA n ev) 25)).alloc (.cells #[.string nm, .int .i64 ino] 27)).alloc (.cells z18 25)) (w.heap.size + 2) ino0 (.slice none 0 0) := by
    have := inoB_lit0 (f := 0) (k := 0) (l := 0) (s := 0) (ev := .slice none 0 0) (heap_alloc_new ((w.alloc (.cells (inoA n ev) 25)).alloc (.cells #[.string nm, .int .i64 ino] 27)) (.cells z18 25))
    rw [show ((w.alloc (.cells (inoA n ev) 25)).alloc (.cells #[.string nm, .int .i64 ino] 27)).heap.size = w.heap.size + 2 by simp] at this
    exact this
  have HM0 : Hid (Mod nob w (((w.alloc (.cells (inoA n ev) 25)).alloc (.cells #[.string nm, .int .i64 ino] 27)).alloc (.cells z18 25))) := (((Mod.refl nob w).alloc _).alloc _).alloc _
  have HZ0 : Hid ((((w.alloc (.cells (inoA n ev) 25)).alloc (.cells #[.string nm, .int .i64 ino] 27)).alloc (.cells z18 25)).heap.size = w.heap.size + 3) := by unfold Hid; simp
  have HE := Lib.hid (he.mod HM0.out (fun _ _ _ h => h))
  have HC := Lib.hid (search_any nm HE.out (by omega) hs)
  have HCL := fun wx hm => Lib.hid (clone_any (w := wx) (HE.out.mod (D := nob) hm (fun _ _ _ h => h)) (by omega))
  have HLW := Lib.hid (low_le n.ents nm)
  have HHL : Hid (hasE n.ents nm = true → lowE n.ents nm < n.ents.length) := fun h => (has_low h).1
  obtain ⟨R, hR⟩ : ∃ R, R = withE n.ents ⟨nm, ino⟩ := ⟨_, rfl⟩
  have HR : Hid (R = if hasE n.ents nm = true then n.ents.set (lowE n.ents nm) ⟨nm, ino⟩ else putE n.ents (lowE n.ents nm) ⟨nm, ino⟩) := hR
  rw [← hR]
  obtain ⟨ao, c, rfl, e1, e2, -, -⟩ := he
  obtain ⟨k, hk⟩ : ∃ k, k = lowE n.ents nm := ⟨_, rfl⟩
  obtain ⟨f, hf⟩ : ∃ f, f = hasE n.ents nm := ⟨_, rfl⟩
  obtain ⟨L, hL⟩ : ∃ L, L = n.ents.length := ⟨_, rfl⟩
  obtain ⟨B, hB⟩ : ∃ B, B = w.heap.size := ⟨_, rfl⟩
  rw [← hk, ← hf] at HC HHL HR
  rw [← hk] at HLW
  rw [← hL] at HHL e1 hl HC HE HLW hb1 hb2 hb3 HM0 HZ0 ⊢
  rw [← hL] at HCL
  rw [← hB] at hb1 hb2 hb3 HZ0 ⊢
  have HL := Lib.hid hL
  have HBB := Lib.hid hB
  clear hR hk hf hL hs hn
  go_enter Try.func14, Try.ntmps14
  go_upto_region 1 with (fail)
  rw [← hB]
  generalize ((w.alloc (.cells (inoA n (.slice ao L c)) 25)).alloc (.cells #[.string nm, .int .i64 ino] 27)).alloc (.cells z18 25) = w0 at *
  clear hB
  have cv : w0.cell? ⟨B, 17, none⟩ = some (.slice ao L c) := by
    have := hb1.at.ev
    rwa [Nat.zero_add] at this
  have x0 : w0.cell? ⟨B + 1, 0, none⟩ = some (.string nm) := by rw [cell_of_row _ _ _ _ _ _ hb2]; rfl
  have HB1 := Lib.hid hb1
  have HB2 := Lib.hid hb2
  have HB3 := Lib.hid hb3
  clear hb1 hb2 hb3
  unfold maxLen at e2
  go_upto_region 2 with (go_at_call 47; (with_reducible refine HC.out.mono ?_); (rintro e w1 ⟨rfl, hb1⟩))
  have HM1 : Hid (Mod nob w0 w1) := mod_of_below hb1
  have cv1 := HM1.out.cell cv (fun h => h)
  clear cv x0 hb1
  have HC1 := HCL w1 HM1.out
  go_upto_region 3 with (go_at_call 48; (with_reducible refine HC1.out.mono ?_); (rintro e w2 ⟨v2, rfl, ho2, hb2⟩; obtain ⟨ao2, c2, hv2, -⟩ := holdsE_of_own HL.out ho2; rw [← HL.out] at hv2; subst hv2; have HI2 := Lib.hid ((HB1.out.mod HM1.out (fun h => h)).mod (mod_of_below hb2) (fun h => h)); have cv2 := HI2.out.at.ev; have fz2 := HI2.out.frozen 17))
  have HM2 : Hid (Mod nob w0 w2) := HM1.out.step (mod_of_below hb2) (fun _ h => h)
  have hz1 := HM1.out.size
  have HI3 : Hid (InoB (w2.setCell ⟨B, 17, none⟩ (.slice ao2 L c2)) B n (.slice ao2 L c2)) := HI2.out.setEv n.ents _
  have HM3 : Hid (Mod (fun q => q = B) w2 (w2.setCell ⟨B, 17, none⟩ (.slice ao2 L c2))) := (Mod.refl (fun q => q = B) w2).setCell (a := ⟨B, 17, none⟩) (.inl rfl) _
  have hgB : ∀ g, (Value.slice ao2 L c2).ownBlock = some g → w1.heap.size ≤ g := own_ge ho2
  have HO3 : Hid ((w2.setCell ⟨B, 17, none⟩ (.slice ao2 L c2)).ownsRow (B + 3) 27 2 (.slice ao2 L c2) L (enC n.ents)) := own_mono (HM3.out.own ho2 (fun g hg e => by have := hgB g hg; have := HZ0.out; omega)) (by have := HZ0.out; omega)
  have HX3 := Lib.hid (HM3.out.heap (HM2.out.heap HB2.out (fun h => h)) (by omega))
  have HN3 : Hid (InoB (w2.setCell ⟨B, 17, none⟩ (.slice ao2 L c2)) (B + 2) ino0 (.slice none 0 0)) := (HB3.out.mod HM2.out (fun h => h)).mod HM3.out (by omega)
  have HW3 : Hid (Mod nob w (w2.setCell ⟨B, 17, none⟩ (.slice ao2 L c2))) := (HM0.out.step HM2.out (fun _ h => h)).setCell (.inr (by rw [← HBB.out]; exact Nat.le_refl _)) _
  have HS3 : Hid (B + 3 ≤ (w2.setCell ⟨B, 17, none⟩ (.slice ao2 L c2)).heap.size) := by
    have h1 := HM3.out.size
    have h2 := HM2.out.size
    have h3 := HZ0.out
    unfold Hid
    omega
  clear hb2 HI2 cv2 fz2 ho2 HM2 HM3 HC1 HC HCL HB1 HB2 HB3 cv1 hgB HE HM0 hz1 HM1 HZ0
  generalize w2.setCell ⟨B, 17, none⟩ (.slice ao2 L c2) = w3 at *
  have cv3 : w3.cell? ⟨B, 17, none⟩ = some (.slice ao2 L c2) := by
    have := HI3.out.at.ev
    rwa [Nat.zero_add] at this
  have x30 : w3.cell? ⟨B + 1, 0, none⟩ = some (.string nm) := by rw [cell_of_row _ _ _ _ _ _ HX3.out]; rfl
  have x31 : w3.cell? ⟨B + 1, 1, none⟩ = some (.int .i64 ino) := by rw [cell_of_row _ _ _ _ _ _ HX3.out]; rfl
  have hn13 : n.bl.length = 13 := HI3.out.2
  have HN13 := Lib.hid hn13
  clear hn13
  go_upto_if 19 with (fail)
  go_cut [5] (fun _ wc => ∃ ao4 c4, Hid (InoB wc B n (.slice ao4 R.length c4)) ∧ Hid (wc.ownsRow (B + 3) 27 2 (.slice ao4 R.length c4) R.length (enC R)) ∧ Hid (Mod nob w wc) ∧ Hid (InoB wc (B + 2) ino0 (.slice none 0 0)))
  case first =>
    cases f with
    | true =>
      have hkL := HHL.out rfl
      have hrr : R = n.ents.set k ⟨nm, ino⟩ := by rw [HR.out]; rfl
      have hRl : R.length = L := by rw [hrr, List.length_set]; exact HL.out.symm
      have HRR := Lib.hid hrr
      have HRL := Lib.hid hRl
      clear hrr hRl HR
      have ho := HO3.out
      rcases ho.2 with ⟨h0, h1⟩ | ⟨g, cap, cur, h1, hbg, -⟩
      · omega
      · simp only [Value.slice.injEq, true_and] at h1
        obtain ⟨rfl, rfl⟩ := h1
        obtain ⟨hth, hos⟩ := own_set HL.out ho k hkL ⟨nm, ino⟩
        have HTH : Hid (w3.there g (k * 2) (#[Value.string nm, .int .i64 ino]).size) := hth
        have HISZ : Hid ((Try.prog.info? 27).map (·.size) = some (#[Value.string nm, .int .i64 ino]).size) := by unfold Hid; rw [hi1]; simp [hy1]
        have HONE : Hid ((#[Value.string nm, .int .i64 ino]).all (·.oneCell') = true) := all_oneCell_toArray (cs := [Value.string nm, .int .i64 ino]) (fun u hu => by simp only [List.mem_cons, List.not_mem_nil, or_false] at hu; rcases hu with rfl | rfl <;> rfl)
        have HOS := Lib.hid hos
        have HMG : Hid (Mod (fun q => q = g) w3 (w3.setCells g (k * 2) [.string nm, .int .i64 ino])) := Mod.setCells (D := fun q => q = g) g (.inl rfl) _ _ _ (Mod.refl _ w3)
        have HMW : Hid (Mod nob w (w3.setCells g (k * 2) [.string nm, .int .i64 ino])) := Mod.setCells g (.inr (by have := HBB.out; omega)) _ _ _ HW3.out
        have hki : (k : Int) < (L : Int) := by omega
        clear ho hth hos
        go_wp2_with (with_reducible refine wpList_store_mid (op := ⟨none, _, _, _, _, _⟩) rfl 27 _ _ rfl g (k * 2) (#[Value.string nm, .int .i64 ino]) rfl rfl HTH.out HISZ.out HONE.out ?_)
        go_meet
        case rel =>
          refine ⟨some ⟨g, 0, none⟩, c2, ?_, ?_, HMW.out, HN3.out.mod HMG.out (by omega)⟩
          · rw [HRL.out]; exact HI3.out.mod HMG.out (by omega)
          · rw [HRL.out, HRR.out]; exact HOS.out
    | false =>
      have hrr : R = putE n.ents k ⟨nm, ino⟩ := by rw [HR.out]; rfl
      have hRl : R.length = L + 1 := by rw [hrr, putE_len (by rw [← HL.out]; exact HLW.out), ← HL.out]
      have HRR := Lib.hid hrr
      have HRL := Lib.hid hRl
      clear hrr hRl HR HHL
      have HMA : Hid (Mod nob w3 (w3.alloc (.cells #[.string nm, .int .i64 ino] 27))) := (Mod.refl nob w3).alloc _
      have hoa := HMA.out.own HO3.out (fun _ _ h => h)
      have hlt3 := HO3.out.lt
      have HIN := Lib.hid (insert9 (w := w3.alloc (.cells #[.string nm, .int .i64 ino] 27)) (base := B + 3) (v := .slice ao2 L c2) (l := n.ents) ⟨nm, ino⟩ k (by rw [← HL.out]; exact HLW.out) (by rw [← HL.out]; omega) (by rw [← HL.out]; exact hoa) (by have := HMA.out.size; have := HS3.out; omega) (vb := w3.heap.size) (heap_alloc_new _ _) (fun e => by have := (hlt3 _ e).2; omega))
      have HIN2 : Hid (Calls Try.prog 49 #[.slice ao2 L c2, .int .i64 (k : Nat), .slice (some ⟨w3.heap.size, 0, none⟩) 1 1] (w3.alloc (.cells #[.string nm, .int .i64 ino] 27)) fun e w' => ∃ ao5 c5, e = .returned (.slice ao5 R.length c5) ∧ w'.ownsRow (B + 3) 27 2 (.slice ao5 R.length c5) R.length (enC R) ∧ InoB w' B n (.slice ao2 L c2) ∧ InoB w' (B + 2) ino0 (.slice none 0 0) ∧ Mod nob w w') := by
        refine HIN.out.mono ?_
        rintro e w' ⟨v5, rfl, ho5, hm5⟩
        rw [← HL.out, ← HRR.out] at ho5
        have hRl := HRL.out
        rw [← hRl] at ho5
        obtain ⟨ao5, c5, rfl, -⟩ := holdsE_of_own rfl ho5
        have hge : ∀ g, (Value.slice ao2 L c2).ownBlock = some g → B + 3 ≤ g := own_ge HO3.out
        refine ⟨ao5, c5, rfl, ho5, (HI3.out.mod HMA.out (fun h => h)).mod hm5 (fun e => by have := hge _ e; omega), (HN3.out.mod HMA.out (fun h => h)).mod hm5 (fun e => by have := hge _ e; omega), ?_⟩
        refine (HW3.out.step HMA.out (fun _ h => h)).trans (hm5.mono (fun q hq e => .inr ⟨by have := hge _ e; have := HBB.out; omega, hq⟩))
      clear hoa hlt3 HIN
      go_wp2_with (go_at_call 49; (with_reducible refine HIN2.out.mono ?_); (rintro e w5 ⟨ao5, c5, rfl, ho5, hi5, hn5, hm5⟩; have HO5 := Lib.hid ho5; have HI5 := Lib.hid hi5; have HN5 := Lib.hid hn5; have HM5 := Lib.hid hm5; have cv5 := HI5.out.at.ev; have fz5 := HI5.out.frozen 17; clear ho5 hi5 hn5 hm5))
      have HI6 : Hid (InoB (w5.setCell ⟨B, 17, none⟩ (.slice ao5 R.length c5)) B n (.slice ao5 R.length c5)) := HI5.out.setEv n.ents _
      have HM6 : Hid (Mod (fun q => q = B) w5 (w5.setCell ⟨B, 17, none⟩ (.slice ao5 R.length c5))) := (Mod.refl (fun q => q = B) w5).setCell (a := ⟨B, 17, none⟩) (.inl rfl) _
      go_meet
      case rel =>
        refine ⟨ao5, c5, HI6.out, HM6.out.own HO5.out (fun g hg e => by have := own_ge HO5.out g hg; omega), HM5.out.setCell (.inr (by rw [← HBB.out]; exact Nat.le_refl _)) _, HN5.out.mod HM6.out (by omega)⟩
  case rest =>
    obtain ⟨ao4, c4, HI4, HO4, HM4, HN4⟩ := hcut
    clear HI3 HO3 HX3 HW3 HS3 HHL cv3 x30 x31 HN3
    obtain ⟨M, hM⟩ : ∃ M, M = R.length := ⟨_, rfl⟩
    rw [← hM] at HI4 HO4
    have HM := Lib.hid hM
    clear hM
    have cv4 : wc.cell? ⟨B, 17, none⟩ = some (.slice ao4 M c4) := by
      have := HI4.out.at.ev
      rwa [Nat.zero_add] at this
    have c3 : wc.cell? ⟨B, 3, none⟩ = some (.int .i64 n.size) := by
      have := HI4.out.at.c3
      rwa [Nat.zero_add] at this
    have fz3 := HI4.out.frozen 3
    have HI5 : Hid (InoB (wc.setCell ⟨B, 3, none⟩ (.int .i64 (M : Nat))) B (entsI n R) (.slice ao4 M c4)) := by
      have := HI4.out.setSize (M : Nat)
      unfold Hid entsI
      rw [← HM.out]
      exact ⟨this.1, this.2⟩
    have HMB : Hid (Mod (fun q => q = B) wc (wc.setCell ⟨B, 3, none⟩ (.int .i64 (M : Nat)))) := (Mod.refl (fun q => q = B) wc).setCell (a := ⟨B, 3, none⟩) (.inl rfl) _
    have HO5 : Hid ((wc.setCell ⟨B, 3, none⟩ (.int .i64 (M : Nat))).ownsRow (B + 3) 27 2 (.slice ao4 M c4) M (enC R)) := HMB.out.own HO4.out (fun g hg e => by have := own_ge HO4.out g hg; omega)
    have HM5 : Hid (Mod nob w (wc.setCell ⟨B, 3, none⟩ (.int .i64 (M : Nat)))) := HM4.out.setCell (.inr (by rw [← HBB.out]; exact Nat.le_refl _)) _
    have HN5 : Hid (InoB (wc.setCell ⟨B, 3, none⟩ (.int .i64 (M : Nat))) (B + 2) ino0 (.slice none 0 0)) := HN4.out.mod HMB.out (by omega)
    clear HO4 HM4 HN4 HMB
    go_upto_region 7 with (fail)
    generalize wc.setCell ⟨B, 3, none⟩ (.int .i64 (M : Nat)) = w5 at *
    have HEL : Hid ((entsI n R).bl.length = 13) := HN13.out
    have HRG := Lib.hid (HI5.out.at.range HEL.out)
    have hszA : (inoL (entsI n R) (.slice ao4 M c4)).toArray.size = 18 := by rw [List.size_toArray]; exact inoL_len HEL.out _
    have HISL : Hid ((Try.prog.info? 25).map (·.size) = some (inoL (entsI n R) (.slice ao4 M c4)).length) := by
      unfold Hid; rw [inoL_len HEL.out]; exact Try.info18
    have HISA : Hid ((Try.prog.info? 25).map (·.size) = some (inoL (entsI n R) (.slice ao4 M c4)).toArray.size) := by
      unfold Hid; rw [hszA]; exact Try.info18
    have HTH : Hid (w5.there (B + 1 + 1) 0 (inoL (entsI n R) (.slice ao4 M c4)).toArray.size) := by
      unfold Hid; rw [hszA]; exact HN5.out.there
    have HONE : Hid ((inoL (entsI n R) (.slice ao4 M c4)).toArray.all (·.oneCell') = true) := all_oneCell_toArray (inoL_one rfl)
    have HI6 := Lib.hid (HN5.out.whole (m := entsI n R) (ev' := (.slice ao4 M c4)) HEL.out)
    have HMB : Hid (Mod (fun q => q = B + 2) w5 (w5.setCells (B + 2) 0 (inoL (entsI n R) (.slice ao4 M c4)))) := Mod.setCells (D := fun q => q = B + 2) (B + 2) (.inl rfl) _ _ _ (Mod.refl _ w5)
    have HM6 : Hid (Mod nob w (w5.setCells (B + 2) 0 (inoL (entsI n R) (.slice ao4 M c4)))) := Mod.setCells (B + 2) (.inr (by have := HBB.out; omega)) _ _ _ HM5.out
    have HO6 : Hid ((w5.setCells (B + 2) 0 (inoL (entsI n R) (.slice ao4 M c4))).ownsRow (B + 3) 27 2 (.slice ao4 M c4) M (enC R)) := HMB.out.own HO5.out (fun g hg e => by have := own_ge HO5.out g hg; omega)
    clear hszA cv4 c3 fz3 HMB HO5 HM5 HI4 HN5
    go_cut [5] (fun _ wd => Hid (InoB wd (B + 2) (entsI n R) (.slice ao4 M c4)) ∧ Hid (Mod nob w wd) ∧ Hid (wd.ownsRow (B + 3) 27 2 (.slice ao4 M c4) M (enC R)))
    case first =>
      go_wp2_with (first
        | (with_reducible refine wpList_load_mid (op := ⟨some 36, _, _, _, _, _⟩) rfl 25 _ rfl B 0 rfl (inoL (entsI n R) (.slice ao4 M c4)) _ HRG.out Try.underlying25 rfl HISL.out ?_)
        | (with_reducible refine wpList_store_mid (op := ⟨none, _, _, _, _, _⟩) rfl 25 _ _ rfl (B + 1 + 1) 0 (inoL (entsI n R) (.slice ao4 M c4)).toArray rfl rfl HTH.out HISA.out HONE.out ?_))
      go_meet
      case rel => exact ⟨HI6.out, HM6.out, HO6.out⟩
    case rest =>
      obtain ⟨HIA, HME, HOE⟩ := hcut
      have hlv := run_loadVar_mid (P := Try.prog) wc (B + 1 + 1) 0 25 _ _ (HIA.out.at.range HEL.out) Try.underlying25 rfl HISL.out
      have HLV := Lib.hid hlv
      clear hlv
      go_wp2_with fail
      refine bodyPost_ret (v := .agg (inoL (entsI n R) (.slice ao4 M c4)).toArray) ?_ rfl ⟨_, rfl, ?_, ?_⟩
      · have hlv := HLV.out
        simp [results, Try.results14, asAddr, hlv]
      · rw [← HM.out]; exact own_mono HOE.out (by have := HBB.out; omega)
      · have := nob_mod_below HME.out
        rw [← HBB.out] at this
        exact this
end Go.Proofs.Ytlopdbhjdijlmaa
