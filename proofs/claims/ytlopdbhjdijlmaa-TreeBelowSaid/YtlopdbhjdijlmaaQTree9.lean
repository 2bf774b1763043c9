/-
  tree.Find, tree.With, tree.Without, imagoref09.Find: contracts. No condition but the bounds that are typed.
  tree.Without, imagoref09.Find: contracts. No condition but the bounds that are typed.
  Directories' entries in order: what is put, found, and taken out. Plain: nothing is assumed.
  imagolaw09.awake: a contract. No condition.
-/
import Derived.Test.YtlopdbhjdijlmaaQSrch9
import Derived.Test.YtlopdbhjdijlmaaQLay1

namespace Go.Proofs.Ytlopdbhjdijlmaa
open Go.ChangeShapes Go.WideShapes Go.ChangeAt Go.RowKit
set_option linter.unusedSimpArgs false
set_option linter.unusedVariables false

/-- The number of a name; 0: none is there. -/
def findE (l : List En) (t : ByteArray) : Int := if hasE l t = true then (l.getD (lowE l t) default).ino else 0
def withE (l : List En) (x : En) : List En := if hasE l x.name = true then l.set (lowE l x.name) x else putE l (lowE l x.name) x
def entsI (n : Ino) (l : List En) : Ino := { n with ents := l, size := (l.length : Int) }

theorem low_le (l : List En) (t : ByteArray) : lowE l t ≤ l.length := insK_le _ _
theorem has_low {l : List En} {t : ByteArray} (h : hasE l t = true) : lowE l t < l.length ∧ (l.getD (lowE l t) default).name = t := by
  unfold hasE at h
  rw [Bool.and_eq_true] at h
  exact ⟨of_decide_eq_true h.1, (cmpN_eq _ _).1 (of_decide_eq_true h.2)⟩

set_option maxRecDepth 20000 in
set_option maxHeartbeats 1000000 in
theorem find9 {w : World} {n : Ino} {ev : Value} (t : ByteArray) (hn : n.bl.length = 13) (he : HoldsE w ev n.ents) (hl : n.ents.length ≤ 1000) (hs : SortE n.ents) :
    Calls Try.prog 13 #[.agg (inoA n ev), .string t] w fun e w' => e = .returned (.tuple #[.int .i64 (findE n.ents t), .bool (hasE n.ents t)]) ∧ Below w.heap.size w w' := by
  have HB : Hid (Below w.heap.size w (w.alloc (.cells (inoA n ev) 25))) := (Below.refl _ _).alloc (Nat.le_refl _) _
  have HI : Hid (InoB (w.alloc (.cells (inoA n ev) 25)) w.heap.size n ev) := InoB.new w hn ev
  have HE := Lib.hid (he.below HB.out)
  have HC := Lib.hid (search_any t HE.out (by omega) hs)
  have HLW := Lib.hid (low_le n.ents t)
  have HHL : Hid (hasE n.ents t = true → lowE n.ents t < n.ents.length) := fun h => (has_low h).1
  have HF : Hid (findE n.ents t = if hasE n.ents t = true then (n.ents.getD (lowE n.ents t) default).ino else 0) := rfl
  obtain ⟨ao, c, rfl, e1, e2, -, -⟩ := he
  have cv : (w.alloc (.cells (inoA n (.slice ao n.ents.length c)) 25)).cell? ⟨w.heap.size, 17, none⟩ = some (.slice ao n.ents.length c) := by
    have := HI.out.at.ev
    rwa [Nat.zero_add] at this
  obtain ⟨k, hk⟩ : ∃ k, k = lowE n.ents t := ⟨_, rfl⟩
  obtain ⟨f, hf⟩ : ∃ f, f = hasE n.ents t := ⟨_, rfl⟩
  obtain ⟨L, hL⟩ : ∃ L, L = n.ents.length := ⟨_, rfl⟩
  rw [← hk, ← hf] at HC HHL HF
  rw [← hf, HF.out]
  rw [← hL] at HHL e1 hl cv HI HC HE HB ⊢
  have HL := Lib.hid hL
  clear hk hf hs HF hL HLW
  unfold maxLen at e2
  cases f with
  | false =>
    go_enter Try.func13, Try.ntmps13
    go_wp2_with fail
    refine HC.out.mono ?_
    rintro e w1 ⟨rfl, hb1⟩
    have HB1 : Hid (Below w.heap.size w w1) := HB.out.trans (hb1.mono HB.out.size)
    clear hb1
    go_wp2_with fail
    go_ret2
    exact ⟨rfl, HB1.out⟩
  | true =>
    have hkL := HHL.out rfl
    have hki : (k : Int) < (L : Int) := by omega
    go_enter Try.func13, Try.ntmps13
    go_wp2_with fail
    refine HC.out.mono ?_
    rintro e w1 ⟨rfl, hb1⟩
    have HB1 : Hid (Below w.heap.size w w1) := HB.out.trans (hb1.mono HB.out.size)
    have cv1 : w1.cell? ⟨w.heap.size, 17, none⟩ = some (.slice ao L c) := (mod_of_below hb1).cell cv (fun h => h)
    obtain ⟨ao', c', e, -, -, -, hcell⟩ := HE.out.below hb1
    rw [← HL.out] at e
    simp only [Value.slice.injEq] at e
    obtain ⟨rfl, -, rfl⟩ := e
    obtain ⟨g, o, rfl, -, d2⟩ := hcell k (by rw [← HL.out]; exact hkL)
    clear hb1 hcell cv
    go_wp2_with fail
    go_ret2
    exact ⟨rfl, HB1.out⟩

theorem own_mono {w : World} {b b' : Nat} {e : TypeId} {size : Nat} {v : Value} {n : Nat} {xs : List Value} (h : w.ownsRow b e size v n xs) (hb : b' ≤ b) : w.ownsRow b' e size v n xs := by
  refine ⟨h.1, ?_⟩
  rcases h.2 with h0 | ⟨g, cap, cur, h1, h2, h3⟩
  · exact .inl h0
  · exact .inr ⟨g, cap, cur, h1, by omega, h3⟩

/-- An entry of an own row is set. -/
theorem own_set {w : World} {b : Nat} {g c : Nat} {l : List En} {L : Nat} (hL : L = l.length) (h : w.ownsRow b 27 2 (.slice (some ⟨g, 0, none⟩) L c) L (enC l)) (k : Nat) (hk : k < L) (x : En) :
    w.there g (k * 2) 2 ∧ (w.setCells g (k * 2) [.string x.name, .int .i64 x.ino]).ownsRow b 27 2 (.slice (some ⟨g, 0, none⟩) L c) L (enC (l.set k x)) := by
  rcases h.2 with ⟨h0, _⟩ | ⟨g', cap, cur, h1, hbg, hg, hnc, hcm, hcs, htk⟩
  · simp at h0
  · simp only [Value.slice.injEq, Option.some.injEq, Addr.mk.injEq, and_true, true_and] at h1
    obtain ⟨rfl, rfl⟩ := h1
    obtain ⟨S, hS⟩ : ∃ S, S = cur.toList.drop (L * 2) := ⟨_, rfl⟩
    have hsp := enC_split l k (by omega)
    have hcur : cur = (enC (l.take k) ++ ([Value.string (l.getD k default).name, .int .i64 (l.getD k default).ino] ++ (enC (l.drop (k + 1)) ++ S))).toArray := by
      have e : cur.toList = enC l ++ S := by rw [← htk, hS, List.take_append_drop]
      rw [hsp, List.append_assoc, List.append_assoc] at e
      rw [← e, Array.toArray_toList]
    have hSl : S.length = (c - L) * 2 := by rw [hS, List.length_drop, Array.length_toList, hcs, ← Nat.sub_mul]
    rw [hcur] at hg
    have hpl : (enC (l.take k)).length = k * 2 := by rw [enC_len, List.length_take]; congr 1; omega
    have hset : enC (l.set k x) = enC (l.take k) ++ ([.string x.name, .int .i64 x.ino] ++ enC (l.drop (k + 1))) := by
      rw [List.set_eq_take_append_cons_drop, if_pos (by omega), enC_append]
      rfl
    have hlen : (enC (l.set k x)).length = L * 2 := by rw [enC_len, List.length_set, hL]
    have hr := heap_setCells_mid g 27 [Value.string x.name, .int .i64 x.ino] (enC (l.take k)) [.string (l.getD k default).name, .int .i64 (l.getD k default).ino] (enC (l.drop (k + 1)) ++ S) w hg rfl
    rw [hpl] at hr
    have hrow : enC (l.take k) ++ ([Value.string x.name, .int .i64 x.ino] ++ (enC (l.drop (k + 1)) ++ S)) = enC (l.set k x) ++ S := by rw [hset]; simp only [List.append_assoc]
    rw [hrow] at hr
    refine ⟨fun j hj => ⟨?_, frozen_of_row _ _ _ _ _ hg⟩, hlen, .inr ⟨g, c, _, rfl, hbg, hr, hnc, hcm, ?_, ?_⟩⟩
    · rw [cell_of_row _ _ _ _ _ _ hg, Array.getElem?_eq_getElem (show k * 2 + j < _ by rw [List.size_toArray, List.length_append, List.length_append, hpl]; simp only [List.length_cons, List.length_nil]; omega)]
      rfl
    · rw [List.size_toArray, List.length_append, hlen, hSl, ← Nat.add_mul]; congr 1; omega
    · show ((enC (l.set k x) ++ S).take (L * 2)) = _
      rw [← hlen, List.take_left]

/-- An inode's cells do not say its entries. -/
theorem inoA_ents (n : Ino) (l : List En) (s : Int) (ev : Value) : inoA { n with size := s } ev = inoA { n with ents := l, size := s } ev := rfl

set_option maxRecDepth 20000 in
set_option maxHeartbeats 4000000 in
theorem with9 {w : World} {n : Ino} {ev : Value} (x : En) (hn : n.bl.length = 13) (he : HoldsE w ev n.ents) (hl : n.ents.length ≤ 999) (hs : SortE n.ents) :
    Calls Try.prog 14 #[.agg (inoA n ev), .agg #[.string x.name, .int .i64 x.ino]] w fun e w' => ∃ v', e = .returned (.agg (inoA (entsI n (withE n.ents x)) v')) ∧ w'.ownsRow w.heap.size 27 2 v' (withE n.ents x).length (enC (withE n.ents x)) ∧ Below w.heap.size w w' := by
  obtain ⟨i1, hi1, hy0, hy1, hy2⟩ := info_parts Try.infoEntry9
  obtain ⟨nm, ino⟩ := x
  dsimp only
  have hb1 : InoB (((w.alloc (.cells (inoA n ev) 25)).alloc (.cells #[.string nm, .int .i64 ino] 27)).alloc (.cells z18 25)) w.heap.size n ev := ((InoB.new w hn ev).mod ((Mod.refl nob _).alloc _) (fun h => h)).mod ((Mod.refl nob _).alloc _) (fun h => h)
  have hb2 : (((w.alloc (.cells (inoA n ev) 25)).alloc (.cells #[.string nm, .int .i64 ino] 27)).alloc (.cells z18 25)).heap[w.heap.size + 1]? = some (.cells #[.string nm, .int .i64 ino] 27 (0, 0)) := ((Mod.refl nob _).alloc _).heap (heap_new1 w _ _) (fun h => h)
  have hb3 : InoB (((w.alloc (.cells (inoA n ev) 25)).alloc (.cells #[.string nm, .int .i64 ino] 27)).alloc (.cells z18 25)) (w.heap.size + 2) ino0 (.slice none 0 0) := by
    have := inoB_lit0 (f := 0) (k := 0) (l := 0) (s := 0) (ev := .slice none 0 0) (heap_alloc_new ((w.alloc (.cells (inoA n ev) 25)).alloc (.cells #[.string nm, .int .i64 ino] 27)) (.cells z18 25))
    rw [show ((w.alloc (.cells (inoA n ev) 25)).alloc (.cells #[.string nm, .int .i64 ino] 27)).heap.size = w.heap.size + 2 by simp] at this
    exact this
  have HM0 : Hid (Mod nob w (((w.alloc (.cells (inoA n ev) 25)).alloc (.cells #[.string nm, .int .i64 ino] 27)).alloc (.cells z18 25))) := (((Mod.refl nob w).alloc _).alloc _).alloc _
  have HZ0 : Hid ((((w.alloc (.cells (inoA n ev) 25)).alloc (.cells #[.string nm, .int .i64 ino] 27)).alloc (.cells z18 25)).heap.size = w.heap.size + 3) := by unfold Hid; simp
  have HE := Lib.hid (he.mod HM0.out (fun _ _ _ h => h))
  have HC := Lib.hid (search_any nm HE.out (by omega) hs)
  have HCL := fun wx hm => Lib.hid (clone_any (w := wx) (HE.out.mod (D := nob) hm (fun _ _ _ h => h)) (by omega))
  have HLW := Lib.hid (low_le n.ents nm)
  have HHL : Hid (hasE n.ents nm = true → lowE n.ents nm < n.ents.length) := fun h => (has_low h).1
  obtain ⟨R, hR⟩ : ∃ R, R = withE n.ents ⟨nm, ino⟩ := ⟨_, rfl⟩
  have HR : Hid (R = if hasE n.ents nm = true then n.ents.set (lowE n.ents nm) ⟨nm, ino⟩ else putE n.ents (lowE n.ents nm) ⟨nm, ino⟩) := hR
  rw [← hR]
  obtain ⟨ao, c, rfl, e1, e2, -, -⟩ := he
  obtain ⟨k, hk⟩ : ∃ k, k = lowE n.ents nm := ⟨_, rfl⟩
  obtain ⟨f, hf⟩ : ∃ f, f = hasE n.ents nm := ⟨_, rfl⟩
  obtain ⟨L, hL⟩ : ∃ L, L = n.ents.length := ⟨_, rfl⟩
  obtain ⟨B, hB⟩ : ∃ B, B = w.heap.size := ⟨_, rfl⟩
  rw [← hk, ← hf] at HC HHL HR
  rw [← hk] at HLW
  rw [← hL] at HHL e1 hl HC HE HLW hb1 hb2 hb3 HM0 HZ0 ⊢
  rw [← hL] at HCL
  rw [← hB] at hb1 hb2 hb3 HZ0 ⊢
  have HL := Lib.hid hL
  have HBB := Lib.hid hB
  clear hR hk hf hL hs hn
  go_enter Try.func14, Try.ntmps14
  go_upto_region 1 with (fail)
  rw [← hB]
  generalize ((w.alloc (.cells (inoA n (.slice ao L c)) 25)).alloc (.cells #[.string nm, .int .i64 ino] 27)).alloc (.cells z18 25) = w0 at *
  clear hB
  have cv : w0.cell? ⟨B, 17, none⟩ = some (.slice ao L c) := by
    have := hb1.at.ev
    rwa [Nat.zero_add] at this
  have x0 : w0.cell? ⟨B + 1, 0, none⟩ = some (.string nm) := by rw [cell_of_row _ _ _ _ _ _ hb2]; rfl
  have HB1 := Lib.hid hb1
  have HB2 := Lib.hid hb2
  have HB3 := Lib.hid hb3
  clear hb1 hb2 hb3
  unfold maxLen at e2
  go_upto_region 2 with (go_at_call 47; (with_reducible refine HC.out.mono ?_); (rintro e w1 ⟨rfl, hb1⟩))
  have HM1 : Hid (Mod nob w0 w1) := mod_of_below hb1
  have cv1 := HM1.out.cell cv (fun h => h)
  clear cv x0 hb1
  have HC1 := HCL w1 HM1.out
  go_upto_region 3 with (go_at_call 48; (with_reducible refine HC1.out.mono ?_); (rintro e w2 ⟨v2, rfl, ho2, hb2⟩; obtain ⟨ao2, c2, hv2, -⟩ := holdsE_of_own HL.out ho2; rw [← HL.out] at hv2; subst hv2; have HI2 := Lib.hid ((HB1.out.mod HM1.out (fun h => h)).mod (mod_of_below hb2) (fun h => h)); have cv2 := HI2.out.at.ev; have fz2 := HI2.out.frozen 17))
  have HM2 : Hid (Mod nob w0 w2) := HM1.out.step (mod_of_below hb2) (fun _ h => h)
  have hz1 := HM1.out.size
  have HI3 : Hid (InoB (w2.setCell ⟨B, 17, none⟩ (.slice ao2 L c2)) B n (.slice ao2 L c2)) := HI2.out.setEv n.ents _
  have HM3 : Hid (Mod (fun q => q = B) w2 (w2.setCell ⟨B, 17, none⟩ (.slice ao2 L c2))) := (Mod.refl (fun q => q = B) w2).setCell (a := ⟨B, 17, none⟩) (.inl rfl) _
  have hgB : ∀ g, (Value.slice ao2 L c2).ownBlock = some g → w1.heap.size ≤ g := own_ge ho2
  have HO3 : Hid ((w2.setCell ⟨B, 17, none⟩ (.slice ao2 L c2)).ownsRow (B + 3) 27 2 (.slice ao2 L c2) L (enC n.ents)) := own_mono (HM3.out.own ho2 (fun g hg e => by have := hgB g hg; have := HZ0.out; omega)) (by have := HZ0.out; omega)
  have HX3 := Lib.hid (HM3.out.heap (HM2.out.heap HB2.out (fun h => h)) (by omega))
  have HN3 : Hid (InoB (w2.setCell ⟨B, 17, none⟩ (.slice ao2 L c2)) (B + 2) ino0 (.slice none 0 0)) := (HB3.out.mod HM2.out (fun h => h)).mod HM3.out (by omega)
  have HW3 : Hid (Mod nob w (w2.setCell ⟨B, 17, none⟩ (.slice ao2 L c2))) := (HM0.out.step HM2.out (fun _ h => h)).setCell (.inr (by rw [← HBB.out]; exact Nat.le_refl _)) _
  have HS3 : Hid (B + 3 ≤ (w2.setCell ⟨B, 17, none⟩ (.slice ao2 L c2)).heap.size) := by
    have h1 := HM3.out.size
    have h2 := HM2.out.size
    have h3 := HZ0.out
    unfold Hid
    omega
  clear hb2 HI2 cv2 fz2 ho2 HM2 HM3 HC1 HC HCL HB1 HB2 HB3 cv1 hgB HE HM0 hz1 HM1 HZ0
  generalize w2.setCell ⟨B, 17, none⟩ (.slice ao2 L c2) = w3 at *
  have cv3 : w3.cell? ⟨B, 17, none⟩ = some (.slice ao2 L c2) := by
    have := HI3.out.at.ev
    rwa [Nat.zero_add] at this
  have x30 : w3.cell? ⟨B + 1, 0, none⟩ = some (.string nm) := by rw [cell_of_row _ _ _ _ _ _ HX3.out]; rfl
  have x31 : w3.cell? ⟨B + 1, 1, none⟩ = some (.int .i64 ino) := by rw [cell_of_row _ _ _ _ _ _ HX3.out]; rfl
  have hn13 : n.bl.length = 13 := HI3.out.2
  have HN13 := Lib.hid hn13
  clear hn13
  go_upto_if 19 with (fail)
  go_cut [5] (fun _ wc => ∃ ao4 c4, Hid (InoB wc B n (.slice ao4 R.length c4)) ∧ Hid (wc.ownsRow (B + 3) 27 2 (.slice ao4 R.length c4) R.length (enC R)) ∧ Hid (Mod nob w wc) ∧ Hid (InoB wc (B + 2) ino0 (.slice none 0 0)))
  case first =>
    cases f with
    | true =>
      have hkL := HHL.out rfl
      have hrr : R = n.ents.set k ⟨nm, ino⟩ := by rw [HR.out]; rfl
      have hRl : R.length = L := by rw [hrr, List.length_set]; exact HL.out.symm
      have HRR := Lib.hid hrr
      have HRL := Lib.hid hRl
      clear hrr hRl HR
      have ho := HO3.out
      rcases ho.2 with ⟨h0, h1⟩ | ⟨g, cap, cur, h1, hbg, -⟩
      · omega
      · simp only [Value.slice.injEq, true_and] at h1
        obtain ⟨rfl, rfl⟩ := h1
        obtain ⟨hth, hos⟩ := own_set HL.out ho k hkL ⟨nm, ino⟩
        have HTH : Hid (w3.there g (k * 2) (#[Value.string nm, .int .i64 ino]).size) := hth
        have HISZ : Hid ((Try.prog.info? 27).map (·.size) = some (#[Value.string nm, .int .i64 ino]).size) := by unfold Hid; rw [hi1]; simp [hy1]
        have HONE : Hid ((#[Value.string nm, .int .i64 ino]).all (·.oneCell') = true) := all_oneCell_toArray (cs := [Value.string nm, .int .i64 ino]) (fun u hu => by simp only [List.mem_cons, List.not_mem_nil, or_false] at hu; rcases hu with rfl | rfl <;> rfl)
        have HOS := Lib.hid hos
        have HMG : Hid (Mod (fun q => q = g) w3 (w3.setCells g (k * 2) [.string nm, .int .i64 ino])) := Mod.setCells (D := fun q => q = g) g (.inl rfl) _ _ _ (Mod.refl _ w3)
        have HMW : Hid (Mod nob w (w3.setCells g (k * 2) [.string nm, .int .i64 ino])) := Mod.setCells g (.inr (by have := HBB.out; omega)) _ _ _ HW3.out
        have hki : (k : Int) < (L : Int) := by omega
        clear ho hth hos
        go_wp2_with (with_reducible refine wpList_store_mid (op := ⟨none, _, _, _, _, _⟩) rfl 27 _ _ rfl g (k * 2) (#[Value.string nm, .int .i64 ino]) rfl rfl HTH.out HISZ.out HONE.out ?_)
        go_meet
        case rel =>
          refine ⟨some ⟨g, 0, none⟩, c2, ?_, ?_, HMW.out, HN3.out.mod HMG.out (by omega)⟩
          · rw [HRL.out]; exact HI3.out.mod HMG.out (by omega)
          · rw [HRL.out, HRR.out]; exact HOS.out
    | false =>
      have hrr : R = putE n.ents k ⟨nm, ino⟩ := by rw [HR.out]; rfl
      have hRl : R.length = L + 1 := by rw [hrr, putE_len (by rw [← HL.out]; exact HLW.out), ← HL.out]
      have HRR := Lib.hid hrr
      have HRL := Lib.hid hRl
      clear hrr hRl HR HHL
      have HMA : Hid (Mod nob w3 (w3.alloc (.cells #[.string nm, .int .i64 ino] 27))) := (Mod.refl nob w3).alloc _
      have hoa := HMA.out.own HO3.out (fun _ _ h => h)
      have hlt3 := HO3.out.lt
      have HIN := Lib.hid (insert9 (w := w3.alloc (.cells #[.string nm, .int .i64 ino] 27)) (base := B + 3) (v := .slice ao2 L c2) (l := n.ents) ⟨nm, ino⟩ k (by rw [← HL.out]; exact HLW.out) (by rw [← HL.out]; omega) (by rw [← HL.out]; exact hoa) (by have := HMA.out.size; have := HS3.out; omega) (vb := w3.heap.size) (heap_alloc_new _ _) (fun e => by have := (hlt3 _ e).2; omega))
      have HIN2 : Hid (Calls Try.prog 49 #[.slice ao2 L c2, .int .i64 (k : Nat), .slice (some ⟨w3.heap.size, 0, none⟩) 1 1] (w3.alloc (.cells #[.string nm, .int .i64 ino] 27)) fun e w' => ∃ ao5 c5, e = .returned (.slice ao5 R.length c5) ∧ w'.ownsRow (B + 3) 27 2 (.slice ao5 R.length c5) R.length (enC R) ∧ InoB w' B n (.slice ao2 L c2) ∧ InoB w' (B + 2) ino0 (.slice none 0 0) ∧ Mod nob w w') := by
        refine HIN.out.mono ?_
        rintro e w' ⟨v5, rfl, ho5, hm5⟩
        rw [← HL.out, ← HRR.out] at ho5
        have hRl := HRL.out
        rw [← hRl] at ho5
        obtain ⟨ao5, c5, rfl, -⟩ := holdsE_of_own rfl ho5
        have hge : ∀ g, (Value.slice ao2 L c2).ownBlock = some g → B + 3 ≤ g := own_ge HO3.out
        refine ⟨ao5, c5, rfl, ho5, (HI3.out.mod HMA.out (fun h => h)).mod hm5 (fun e => by have := hge _ e; omega), (HN3.out.mod HMA.out (fun h => h)).mod hm5 (fun e => by have := hge _ e; omega), ?_⟩
        refine (HW3.out.step HMA.out (fun _ h => h)).trans (hm5.mono (fun q hq e => .inr ⟨by have := hge _ e; have := HBB.out; omega, hq⟩))
      clear hoa hlt3 HIN
      go_wp2_with (go_at_call 49; (with_reducible refine HIN2.out.mono ?_); (rintro e w5 ⟨ao5, c5, rfl, ho5, hi5, hn5, hm5⟩; have HO5 := Lib.hid ho5; have HI5 := Lib.hid hi5; have HN5 := Lib.hid hn5; have HM5 := Lib.hid hm5; have cv5 := HI5.out.at.ev; have fz5 := HI5.out.frozen 17; clear ho5 hi5 hn5 hm5))
      have HI6 : Hid (InoB (w5.setCell ⟨B, 17, none⟩ (.slice ao5 R.length c5)) B n (.slice ao5 R.length c5)) := HI5.out.setEv n.ents _
      have HM6 : Hid (Mod (fun q => q = B) w5 (w5.setCell ⟨B, 17, none⟩ (.slice ao5 R.length c5))) := (Mod.refl (fun q => q = B) w5).setCell (a := ⟨B, 17, none⟩) (.inl rfl) _
      go_meet
      case rel =>
        refine ⟨ao5, c5, HI6.out, HM6.out.own HO5.out (fun g hg e => by have := own_ge HO5.out g hg; omega), HM5.out.setCell (.inr (by rw [← HBB.out]; exact Nat.le_refl _)) _, HN5.out.mod HM6.out (by omega)⟩
  case rest =>
    obtain ⟨ao4, c4, HI4, HO4, HM4, HN4⟩ := hcut
    clear HI3 HO3 HX3 HW3 HS3 HHL cv3 x30 x31 HN3
    obtain ⟨M, hM⟩ : ∃ M, M = R.length := ⟨_, rfl⟩
    rw [← hM] at HI4 HO4
    have HM := Lib.hid hM
    clear hM
    have cv4 : wc.cell? ⟨B, 17, none⟩ = some (.slice ao4 M c4) := by
      have := HI4.out.at.ev
      rwa [Nat.zero_add] at this
    have c3 : wc.cell? ⟨B, 3, none⟩ = some (.int .i64 n.size) := by
      have := HI4.out.at.c3
      rwa [Nat.zero_add] at this
    have fz3 := HI4.out.frozen 3
    have HI5 : Hid (InoB (wc.setCell ⟨B, 3, none⟩ (.int .i64 (M : Nat))) B (entsI n R) (.slice ao4 M c4)) := by
      have := HI4.out.setSize (M : Nat)
      unfold Hid entsI
      rw [← HM.out]
      exact ⟨this.1, this.2⟩
    have HMB : Hid (Mod (fun q => q = B) wc (wc.setCell ⟨B, 3, none⟩ (.int .i64 (M : Nat)))) := (Mod.refl (fun q => q = B) wc).setCell (a := ⟨B, 3, none⟩) (.inl rfl) _
    have HO5 : Hid ((wc.setCell ⟨B, 3, none⟩ (.int .i64 (M : Nat))).ownsRow (B + 3) 27 2 (.slice ao4 M c4) M (enC R)) := HMB.out.own HO4.out (fun g hg e => by have := own_ge HO4.out g hg; omega)
    have HM5 : Hid (Mod nob w (wc.setCell ⟨B, 3, none⟩ (.int .i64 (M : Nat)))) := HM4.out.setCell (.inr (by rw [← HBB.out]; exact Nat.le_refl _)) _
    have HN5 : Hid (InoB (wc.setCell ⟨B, 3, none⟩ (.int .i64 (M : Nat))) (B + 2) ino0 (.slice none 0 0)) := HN4.out.mod HMB.out (by omega)
    clear HO4 HM4 HN4 HMB
    go_upto_region 7 with (fail)
    generalize wc.setCell ⟨B, 3, none⟩ (.int .i64 (M : Nat)) = w5 at *
    have HEL : Hid ((entsI n R).bl.length = 13) := HN13.out
    have HRG := Lib.hid (HI5.out.at.range HEL.out)
    have hszA : (inoL (entsI n R) (.slice ao4 M c4)).toArray.size = 18 := by rw [List.size_toArray]; exact inoL_len HEL.out _
    have HISL : Hid ((Try.prog.info? 25).map (·.size) = some (inoL (entsI n R) (.slice ao4 M c4)).length) := by
      unfold Hid; rw [inoL_len HEL.out]; exact Try.info18
    have HISA : Hid ((Try.prog.info? 25).map (·.size) = some (inoL (entsI n R) (.slice ao4 M c4)).toArray.size) := by
      unfold Hid; rw [hszA]; exact Try.info18
    have HTH : Hid (w5.there (B + 1 + 1) 0 (inoL (entsI n R) (.slice ao4 M c4)).toArray.size) := by
      unfold Hid; rw [hszA]; exact HN5.out.there
    have HONE : Hid ((inoL (entsI n R) (.slice ao4 M c4)).toArray.all (·.oneCell') = true) := all_oneCell_toArray (inoL_one rfl)
    have HI6 := Lib.hid (HN5.out.whole (m := entsI n R) (ev' := (.slice ao4 M c4)) HEL.out)
    have HMB : Hid (Mod (fun q => q = B + 2) w5 (w5.setCells (B + 2) 0 (inoL (entsI n R) (.slice ao4 M c4)))) := Mod.setCells (D := fun q => q = B + 2) (B + 2) (.inl rfl) _ _ _ (Mod.refl _ w5)
    have HM6 : Hid (Mod nob w (w5.setCells (B + 2) 0 (inoL (entsI n R) (.slice ao4 M c4)))) := Mod.setCells (B + 2) (.inr (by have := HBB.out; omega)) _ _ _ HM5.out
    have HO6 : Hid ((w5.setCells (B + 2) 0 (inoL (entsI n R) (.slice ao4 M c4))).ownsRow (B + 3) 27 2 (.slice ao4 M c4) M (enC R)) := HMB.out.own HO5.out (fun g hg e => by have := own_ge HO5.out g hg; omega)
    clear hszA cv4 c3 fz3 HMB HO5 HM5 HI4 HN5
    go_cut [5] (fun _ wd => Hid (InoB wd (B + 2) (entsI n R) (.slice ao4 M c4)) ∧ Hid (Mod nob w wd) ∧ Hid (wd.ownsRow (B + 3) 27 2 (.slice ao4 M c4) M (enC R)))
    case first =>
      go_wp2_with (first
        | (with_reducible refine wpList_load_mid (op := ⟨some 36, _, _, _, _, _⟩) rfl 25 _ rfl B 0 rfl (inoL (entsI n R) (.slice ao4 M c4)) _ HRG.out Try.underlying25 rfl HISL.out ?_)
        | (with_reducible refine wpList_store_mid (op := ⟨none, _, _, _, _, _⟩) rfl 25 _ _ rfl (B + 1 + 1) 0 (inoL (entsI n R) (.slice ao4 M c4)).toArray rfl rfl HTH.out HISA.out HONE.out ?_))
      go_meet
      case rel => exact ⟨HI6.out, HM6.out, HO6.out⟩
    case rest =>
      obtain ⟨HIA, HME, HOE⟩ := hcut
      have hlv := run_loadVar_mid (P := Try.prog) wc (B + 1 + 1) 0 25 _ _ (HIA.out.at.range HEL.out) Try.underlying25 rfl HISL.out
      have HLV := Lib.hid hlv
      clear hlv
      go_wp2_with fail
      refine bodyPost_ret (v := .agg (inoL (entsI n R) (.slice ao4 M c4)).toArray) ?_ rfl ⟨_, rfl, ?_, ?_⟩
      · have hlv := HLV.out
        simp [results, Try.results14, asAddr, hlv]
      · rw [← HM.out]; exact own_mono HOE.out (by have := HBB.out; omega)
      · have := nob_mod_below HME.out
        rw [← HBB.out] at this
        exact this
end Go.Proofs.Ytlopdbhjdijlmaa

namespace Go.Proofs.Ytlopdbhjdijlmaa
open Go.ChangeShapes Go.WideShapes Go.ChangeAt Go.RowKit
set_option linter.unusedSimpArgs false
set_option linter.unusedVariables false

/-- What the reference finds, from one on. -/
def refFrom (l : List En) (t : ByteArray) : Nat → Nat → Int
  | _, 0 => -1
  | k, f + 1 => if eqN (l.getD k default).name t then (l.getD k default).ino else refFrom l t (k + 1) f

set_option maxRecDepth 20000 in
set_option maxHeartbeats 1000000 in
theorem refFind9 {w : World} {lv : Value} {l : List En} (t : ByteArray) (hl : HoldsE w lv l) (hb : l.length ≤ 1000) :
    Calls Try.prog 12 #[lv, .string t] w fun e w' => e = .returned (.int .i64 (refFrom l t 0 l.length)) ∧ w = w' := by
  have HL := Lib.hid hl
  obtain ⟨ao, c, rfl, hlc, hcm, -, hcell0⟩ := hl
  obtain ⟨n, hn⟩ : ∃ n, n = l.length := ⟨_, rfl⟩
  rw [← hn] at HL hb hlc hcell0 ⊢
  have hcell := Lib.hid hcell0
  unfold maxLen at hcm
  clear hn hcell0
  go_enter Try.func12, Try.ntmps12
  go_wp2
  go_loopg [5] n (fun gk i wr => ∃ (k : Nat), k + gk = n ∧ i = .int .i64 k ∧ Hid (refFrom l t 0 n = refFrom l t k gk) ∧ w = wr)
  case atStart => exact ⟨0, by omega, rfl, rfl, rfl⟩
  case round =>
    obtain ⟨k, hk, rfl, HE, rfl⟩ := hrel
    by_cases hlt : k < n
    · obtain ⟨g, o, rfl, e1, e2⟩ := hcell.out k hlt
      obtain ⟨gm, hgm⟩ : ∃ gm, gk = gm + 1 := ⟨gk - 1, by omega⟩
      have hE := HE.out
      rw [hgm] at hE
      simp only [refFrom] at hE
      generalize l.getD k default = x at e1 e2 hE
      obtain ⟨nm, ino⟩ := x
      simp only at e1 e2 hE
      cases hp0 : eqN nm t with
      | false =>
        rw [hp0] at hE
        have HE2 := Lib.hid hE
        have hp : (nm.toList == t.toList) = false := hp0
        clear hE hp0
        go_wp2
        go_roundg gm
        case measure => omega
        case rel => exact ⟨k + 1, by omega, by go_num, HE2.out, rfl⟩
      | true =>
        rw [hp0] at hE
        have HE2 := Lib.hid hE
        have hp : (nm.toList == t.toList) = true := hp0
        clear hE hp0
        go_wp2
        go_ret
        rw [HE2.out]
        exact ⟨rfl, rfl⟩
    · obtain rfl : k = n := by omega
      obtain rfl : gk = 0 := by omega
      go_wp2
      go_ret
      rw [HE.out]
      exact ⟨rfl, rfl⟩

set_option maxRecDepth 20000 in
set_option maxHeartbeats 4000000 in
theorem without9 {w : World} {n : Ino} {ev : Value} (t : ByteArray) (hn : n.bl.length = 13) (he : HoldsE w ev n.ents) (hl : n.ents.length ≤ 1000) :
    Calls Try.prog 15 #[.agg (inoA n ev), .string t] w fun e w' => ∃ v', e = .returned (.agg (inoA (entsI n (dropE n.ents t)) v')) ∧ w'.ownsRow w.heap.size 27 2 v' (dropE n.ents t).length (enC (dropE n.ents t)) ∧ Below w.heap.size w w' := by
  have hb1 : InoB (((w.alloc (.cells (inoA n ev) 25)).alloc (.cells #[.string t] 9)).alloc (.cells z18 25)) w.heap.size n ev := ((InoB.new w hn ev).mod ((Mod.refl nob _).alloc _) (fun h => h)).mod ((Mod.refl nob _).alloc _) (fun h => h)
  have hb2 : (((w.alloc (.cells (inoA n ev) 25)).alloc (.cells #[.string t] 9)).alloc (.cells z18 25)).heap[w.heap.size + 1]? = some (.cells #[.string t] 9 (0, 0)) := ((Mod.refl nob _).alloc _).heap (heap_new1 w _ _) (fun h => h)
  have hb3 : InoB (((w.alloc (.cells (inoA n ev) 25)).alloc (.cells #[.string t] 9)).alloc (.cells z18 25)) (w.heap.size + 2) ino0 (.slice none 0 0) := by
    have := inoB_lit0 (f := 0) (k := 0) (l := 0) (s := 0) (ev := .slice none 0 0) (heap_alloc_new ((w.alloc (.cells (inoA n ev) 25)).alloc (.cells #[.string t] 9)) (.cells z18 25))
    rw [show ((w.alloc (.cells (inoA n ev) 25)).alloc (.cells #[.string t] 9)).heap.size = w.heap.size + 2 by simp] at this
    exact this
  have HM0 : Hid (Mod nob w (((w.alloc (.cells (inoA n ev) 25)).alloc (.cells #[.string t] 9)).alloc (.cells z18 25))) := (((Mod.refl nob w).alloc _).alloc _).alloc _
  have HZ0 : Hid ((((w.alloc (.cells (inoA n ev) 25)).alloc (.cells #[.string t] 9)).alloc (.cells z18 25)).heap.size = w.heap.size + 3) := by unfold Hid; simp
  have HE := Lib.hid (he.mod HM0.out (fun _ _ _ h => h))
  have HCL := Lib.hid (clone_any HE.out hl)
  have HDL := fun wx base v (hown : World.ownsRow wx base 27 2 v n.ents.length (enC n.ents)) hbase (q : Nat) (hq : wx.cell? ⟨q, 0, none⟩ = some (.string t)) hne => Lib.hid (delete9 hl hown hbase hq hne)
  obtain ⟨R, hR⟩ : ∃ R, R = dropE n.ents t := ⟨_, rfl⟩
  rw [← hR]
  rw [← hR] at HDL
  obtain ⟨ao, c, rfl, e1, e2, -, -⟩ := he
  obtain ⟨L, hL⟩ : ∃ L, L = n.ents.length := ⟨_, rfl⟩
  obtain ⟨B, hB⟩ : ∃ B, B = w.heap.size := ⟨_, rfl⟩
  rw [← hL] at e1 hl HE HCL hb1 hb2 hb3 HM0 HZ0 ⊢
  rw [← hL] at HDL
  rw [← hB] at hb1 hb2 hb3 HZ0 ⊢
  have HL := Lib.hid hL
  have HBB := Lib.hid hB
  clear hR hL
  go_enter Try.func15, Try.ntmps15
  go_upto_region 1 with (fail)
  rw [← hB]
  generalize ((w.alloc (.cells (inoA n (.slice ao L c)) 25)).alloc (.cells #[.string t] 9)).alloc (.cells z18 25) = w0 at *
  clear hB
  have cv : w0.cell? ⟨B, 17, none⟩ = some (.slice ao L c) := by
    have := hb1.at.ev
    rwa [Nat.zero_add] at this
  have HB1 := Lib.hid hb1
  have HB2 := Lib.hid hb2
  have HB3 := Lib.hid hb3
  have HN13 := Lib.hid hn
  clear hb1 hb2 hb3 hn
  unfold maxLen at e2
  have HDE : Hid (∀ w2 v2, w2.ownsRow w0.heap.size 27 2 v2 L (enC n.ents) → Below w0.heap.size w0 w2 → Calls Try.prog 50 #[v2, .func (.func 51) #[] #[.pointer (some ⟨B + 1, 0, none⟩)]] w2 fun e w' => ∃ ao5 c5, e = .returned (.slice ao5 R.length c5) ∧ w'.ownsRow (B + 3) 27 2 (.slice ao5 R.length c5) R.length (enC R) ∧ InoB w' B n (.slice ao L c) ∧ InoB w' (B + 2) ino0 (.slice none 0 0) ∧ Mod nob w w') := fun w2 v2 ho2 hb2 => by
    have hz := HZ0.out
    have hge := own_ge ho2
    have hq2 : w2.cell? ⟨B + 1, 0, none⟩ = some (.string t) := by
      rw [cell_of_row _ _ _ _ _ _ ((mod_of_below hb2).heap HB2.out (fun h => h))]; rfl
    refine (HDL w2 (B + 3) v2 (own_mono ho2 (by omega)) (by have := hb2.size; omega) (B + 1) hq2 (fun e => by have := hge _ e; omega)).out.mono ?_
    rintro e w' ⟨v5, rfl, ho5, hm5⟩
    obtain ⟨ao5, c5, rfl, -⟩ := holdsE_of_own rfl ho5
    refine ⟨ao5, c5, rfl, ho5, (HB1.out.mod (mod_of_below hb2) (fun h => h)).mod hm5 (fun e => by have := hge _ e; omega), (HB3.out.mod (mod_of_below hb2) (fun h => h)).mod hm5 (fun e => by have := hge _ e; omega), ?_⟩
    exact (HM0.out.step (mod_of_below hb2) (fun _ h => h)).trans (hm5.mono (fun q hq e => .inr ⟨by have := hge _ e; have := HBB.out; omega, hq⟩))
  clear HDL HB2 HB1 HB3 HM0
  go_upto_region 2 with (first
    | (go_at_call 48; (with_reducible refine HCL.out.mono ?_); (rintro e w2 ⟨v2, rfl, ho2, hb2⟩; obtain ⟨ao2, c2, hv2, -⟩ := holdsE_of_own HL.out ho2; rw [← HL.out] at hv2; subst hv2; have HD2 := Lib.hid (HDE.out _ _ ho2 hb2); clear ho2 hb2))
    | (go_at_call 50; (with_reducible refine HD2.out.mono ?_); (rintro e w5 ⟨ao5, c5, rfl, ho5, hi5, hn5, hm5⟩; have HO5 := Lib.hid ho5; have HI5 := Lib.hid hi5; have HN5 := Lib.hid hn5; have HM5 := Lib.hid hm5; have cv5 := HI5.out.at.ev; have fz5 := HI5.out.frozen 17; clear ho5 hi5 hn5 hm5)))
  have HI4 : Hid (InoB (w5.setCell ⟨B, 17, none⟩ (.slice ao5 R.length c5)) B n (.slice ao5 R.length c5)) := HI5.out.setEv n.ents _
  have HMS : Hid (Mod (fun q => q = B) w5 (w5.setCell ⟨B, 17, none⟩ (.slice ao5 R.length c5))) := (Mod.refl (fun q => q = B) w5).setCell (a := ⟨B, 17, none⟩) (.inl rfl) _
  have HO4 : Hid ((w5.setCell ⟨B, 17, none⟩ (.slice ao5 R.length c5)).ownsRow (B + 3) 27 2 (.slice ao5 R.length c5) R.length (enC R)) := HMS.out.own HO5.out (fun g hg e => by have := own_ge HO5.out g hg; omega)
  have HM4 : Hid (Mod nob w (w5.setCell ⟨B, 17, none⟩ (.slice ao5 R.length c5))) := HM5.out.setCell (.inr (by rw [← HBB.out]; exact Nat.le_refl _)) _
  have HN4 : Hid (InoB (w5.setCell ⟨B, 17, none⟩ (.slice ao5 R.length c5)) (B + 2) ino0 (.slice none 0 0)) := HN5.out.mod HMS.out (by omega)
  clear HMS HO5 HM5 HN5 HI5 cv5 fz5 HCL HDE cv HE HD2
  generalize w5.setCell ⟨B, 17, none⟩ (.slice ao5 R.length c5) = wc at *
  obtain ⟨ao4, hao4⟩ : ∃ a, a = ao5 := ⟨_, rfl⟩
  obtain ⟨c4, hc4⟩ : ∃ a, a = c5 := ⟨_, rfl⟩
  rw [← hao4, ← hc4] at HI4 HO4 ⊢
  clear hao4 hc4
  obtain ⟨M, hM⟩ : ∃ M, M = R.length := ⟨_, rfl⟩
  rw [← hM] at HI4 HO4
  have HM := Lib.hid hM
  clear hM
  have cv4 : wc.cell? ⟨B, 17, none⟩ = some (.slice ao4 M c4) := by
    have := HI4.out.at.ev
    rwa [Nat.zero_add] at this
  have c3 : wc.cell? ⟨B, 3, none⟩ = some (.int .i64 n.size) := by
    have := HI4.out.at.c3
    rwa [Nat.zero_add] at this
  have fz3 := HI4.out.frozen 3
  have HI5 : Hid (InoB (wc.setCell ⟨B, 3, none⟩ (.int .i64 (M : Nat))) B (entsI n R) (.slice ao4 M c4)) := by
    have := HI4.out.setSize (M : Nat)
    unfold Hid entsI
    rw [← HM.out]
    exact ⟨this.1, this.2⟩
  have HMB : Hid (Mod (fun q => q = B) wc (wc.setCell ⟨B, 3, none⟩ (.int .i64 (M : Nat)))) := (Mod.refl (fun q => q = B) wc).setCell (a := ⟨B, 3, none⟩) (.inl rfl) _
  have HO5 : Hid ((wc.setCell ⟨B, 3, none⟩ (.int .i64 (M : Nat))).ownsRow (B + 3) 27 2 (.slice ao4 M c4) M (enC R)) := HMB.out.own HO4.out (fun g hg e => by have := own_ge HO4.out g hg; omega)
  have HM5 : Hid (Mod nob w (wc.setCell ⟨B, 3, none⟩ (.int .i64 (M : Nat)))) := HM4.out.setCell (.inr (by rw [← HBB.out]; exact Nat.le_refl _)) _
  have HN5 : Hid (InoB (wc.setCell ⟨B, 3, none⟩ (.int .i64 (M : Nat))) (B + 2) ino0 (.slice none 0 0)) := HN4.out.mod HMB.out (by omega)
  clear HO4 HM4 HN4 HMB
  go_upto_region 3 with (fail)
  generalize wc.setCell ⟨B, 3, none⟩ (.int .i64 (M : Nat)) = w5 at *
  have HEL : Hid ((entsI n R).bl.length = 13) := HN13.out
  have HRG := Lib.hid (HI5.out.at.range HEL.out)
  have hszA : (inoL (entsI n R) (.slice ao4 M c4)).toArray.size = 18 := by rw [List.size_toArray]; exact inoL_len HEL.out _
  have HISL : Hid ((Try.prog.info? 25).map (·.size) = some (inoL (entsI n R) (.slice ao4 M c4)).length) := by
    unfold Hid; rw [inoL_len HEL.out]; exact Try.info18
  have HISA : Hid ((Try.prog.info? 25).map (·.size) = some (inoL (entsI n R) (.slice ao4 M c4)).toArray.size) := by
    unfold Hid; rw [hszA]; exact Try.info18
  have HTH : Hid (w5.there (B + 1 + 1) 0 (inoL (entsI n R) (.slice ao4 M c4)).toArray.size) := by
    unfold Hid; rw [hszA]; exact HN5.out.there
  have HONE : Hid ((inoL (entsI n R) (.slice ao4 M c4)).toArray.all (·.oneCell') = true) := all_oneCell_toArray (inoL_one rfl)
  have HI6 := Lib.hid (HN5.out.whole (m := entsI n R) (ev' := (.slice ao4 M c4)) HEL.out)
  have HMB : Hid (Mod (fun q => q = B + 2) w5 (w5.setCells (B + 2) 0 (inoL (entsI n R) (.slice ao4 M c4)))) := Mod.setCells (D := fun q => q = B + 2) (B + 2) (.inl rfl) _ _ _ (Mod.refl _ w5)
  have HM6 : Hid (Mod nob w (w5.setCells (B + 2) 0 (inoL (entsI n R) (.slice ao4 M c4)))) := Mod.setCells (B + 2) (.inr (by have := HBB.out; omega)) _ _ _ HM5.out
  have HO6 : Hid ((w5.setCells (B + 2) 0 (inoL (entsI n R) (.slice ao4 M c4))).ownsRow (B + 3) 27 2 (.slice ao4 M c4) M (enC R)) := HMB.out.own HO5.out (fun g hg e => by have := own_ge HO5.out g hg; omega)
  clear hszA cv4 c3 fz3 HMB HO5 HM5 HI4 HN5
  go_cut [5] (fun _ wd => Hid (InoB wd (B + 2) (entsI n R) (.slice ao4 M c4)) ∧ Hid (Mod nob w wd) ∧ Hid (wd.ownsRow (B + 3) 27 2 (.slice ao4 M c4) M (enC R)))
  case first =>
    go_wp2_with (first
      | (with_reducible refine wpList_load_mid (op := ⟨some 15, _, _, _, _, _⟩) rfl 25 _ rfl B 0 rfl (inoL (entsI n R) (.slice ao4 M c4)) _ HRG.out Try.underlying25 rfl HISL.out ?_)
      | (with_reducible refine wpList_store_mid (op := ⟨none, _, _, _, _, _⟩) rfl 25 _ _ rfl (B + 1 + 1) 0 (inoL (entsI n R) (.slice ao4 M c4)).toArray rfl rfl HTH.out HISA.out HONE.out ?_))
    go_meet
    case rel => exact ⟨HI6.out, HM6.out, HO6.out⟩
  case rest =>
    obtain ⟨HIA, HME, HOE⟩ := hcut
    have hlv := run_loadVar_mid (P := Try.prog) wc (B + 1 + 1) 0 25 _ _ (HIA.out.at.range HEL.out) Try.underlying25 rfl HISL.out
    have HLV := Lib.hid hlv
    clear hlv
    go_wp2_with fail
    refine bodyPost_ret (v := .agg (inoL (entsI n R) (.slice ao4 M c4)).toArray) ?_ rfl ⟨_, rfl, ?_, ?_⟩
    · have hlv := HLV.out
      simp [results, Try.results15, asAddr, hlv]
    · rw [← HM.out]; exact own_mono HOE.out (by have := HBB.out; omega)
    · have := nob_mod_below HME.out
      rw [← HBB.out] at this
      exact this
end Go.Proofs.Ytlopdbhjdijlmaa

namespace Go.Proofs.Ytlopdbhjdijlmaa
set_option linter.unusedSimpArgs false
set_option linter.unusedVariables false

/-- Ascending. -/
def SortP (l : List En) : Prop := l.Pairwise fun a b => ltE a b = true
theorem sortP_of {l : List En} (h : SortE l) : SortP l := by
  unfold SortP
  rw [List.pairwise_iff_getElem]
  intro i j hi hj hij
  have := h i j hij hj
  rw [List.getD_eq_getElem?_getD, List.getD_eq_getElem?_getD, List.getElem?_eq_getElem hi, List.getElem?_eq_getElem hj] at this
  exact this
theorem sortE_of {l : List En} (h : SortP l) : SortE l := by
  intro i j hij hj
  unfold SortP at h
  rw [List.pairwise_iff_getElem] at h
  have := h i j (by omega) hj hij
  rw [List.getD_eq_getElem?_getD, List.getD_eq_getElem?_getD, List.getElem?_eq_getElem (show i < l.length by omega), List.getElem?_eq_getElem hj]
  exact this

def refL : List En → ByteArray → Int
  | [], _ => -1
  | y :: r, t => if eqN y.name t = true then y.ino else refL r t
theorem refFrom_eq (l : List En) (t : ByteArray) : ∀ f k, k + f = l.length → refFrom l t k f = refL (l.drop k) t
  | 0, k, hk => by rw [List.drop_of_length_le (by omega)]; rfl
  | f + 1, k, hk => by
    rw [drop_getD (show k < l.length by omega)]
    show (if eqN (l.getD k default).name t then _ else _) = if eqN (l.getD k default).name t = true then _ else _
    rw [refFrom_eq l t f (k + 1) (by omega)]
theorem ref_eq (l : List En) (t : ByteArray) : refFrom l t 0 l.length = refL l t := by rw [refFrom_eq l t l.length 0 (by omega), List.drop_zero]

theorem eqN_iff (a b : ByteArray) : eqN a b = true ↔ a = b := by
  unfold eqN
  rw [beq_iff_eq, data_toL, data_toL]
  constructor
  · intro h
    cases a; cases b
    simp at h
    simp [h]
  · intro h; rw [h]
theorem eqN_self (a : ByteArray) : eqN a a = true := (eqN_iff a a).2 rfl
def ltN (a b : ByteArray) : Bool := Op.bytesLess a.toList b.toList
theorem ltN_ne {a b : ByteArray} (h : ltN a b = true) : eqN a b = false := by
  cases he : eqN a b with
  | false => rfl
  | true =>
    rw [(eqN_iff _ _).1 he] at h
    unfold ltN at h
    rw [blq_irrefl] at h
    cases h
theorem ltN_ne' {a b : ByteArray} (h : ltN a b = true) : eqN b a = false := by
  cases he : eqN b a with
  | false => rfl
  | true =>
    rw [(eqN_iff _ _).1 he] at h
    unfold ltN at h
    rw [blq_irrefl] at h
    cases h
theorem ltN_of {a b : ByteArray} (h1 : ltN a b = false) (h2 : eqN a b = false) : ltN b a = true := blq_total h1 h2
theorem ltE_iff (a b : En) : ltE a b = ltN a.name b.name := rfl

theorem refL_cons (y : En) (r : List En) (t : ByteArray) : refL (y :: r) t = if eqN y.name t = true then y.ino else refL r t := rfl
theorem refL_skip {A : List En} {t : ByteArray} (h : ∀ a ∈ A, eqN a.name t = false) (r : List En) : refL (A ++ r) t = refL r t := by
  induction A with
  | nil => rfl
  | cons a A ih =>
    rw [List.cons_append, refL_cons, h a (by simp), if_neg (by decide)]
    exact ih (fun b hb => h b (by simp [hb]))
theorem refL_none {A : List En} {t : ByteArray} (h : ∀ a ∈ A, eqN a.name t = false) : refL A t = -1 := by
  have := refL_skip h []
  rw [List.append_nil] at this
  exact this
theorem refL_mem {m : List En} (h : SortP m) {z : En} (hz : z ∈ m) : refL m z.name = z.ino := by
  induction m with
  | nil => cases hz
  | cons y r ih =>
    unfold SortP at h
    rw [List.pairwise_cons] at h
    rw [refL_cons]
    rcases List.mem_cons.1 hz with rfl | hr
    · rw [if_pos (eqN_self _)]
    · have := h.1 z hr
      rw [ltE_iff] at this
      rw [ltN_ne this, if_neg (by decide)]
      exact ih h.2 hr

theorem drop_skip {A : List En} {t : ByteArray} (h : ∀ a ∈ A, eqN a.name t = false) : dropE A t = A := by
  unfold dropE
  rw [List.filter_eq_self]
  intro a ha
  rw [h a ha]
  rfl
theorem dropE_append (A B : List En) (t : ByteArray) : dropE (A ++ B) t = dropE A t ++ dropE B t := List.filter_append ..

/-- How a name parts entries. -/
structure Parts (l : List En) (t : ByteArray) (A D C : List En) : Prop where
  eq : l = A ++ (D ++ C)
  lo : ∀ a ∈ A, ltN a.name t = true
  hi : ∀ c ∈ C, ltN t c.name = true
  mid : (hasE l t = true ∧ ∃ y, D = [y] ∧ y.name = t ∧ findE l t = y.ino) ∨ (hasE l t = false ∧ D = [] ∧ findE l t = 0)
  put : ∀ x : En, x.name = t → withE l x = A ++ x :: C

theorem takeWhile_len_take {α : Type} (p : α → Bool) (l : List α) : l.take (l.takeWhile p).length = l.takeWhile p := by
  induction l with
  | nil => rfl
  | cons a l ih =>
    rw [List.takeWhile_cons]
    split
    · simp [ih]
    · simp
theorem takeWhile_len_drop {α : Type} (p : α → Bool) (l : List α) : l.drop (l.takeWhile p).length = l.dropWhile p := by
  induction l with
  | nil => rfl
  | cons a l ih =>
    rw [List.takeWhile_cons, List.dropWhile_cons]
    split
    · simp [ih]
    · simp
theorem dropWhile_head {α : Type} {p : α → Bool} {l r : List α} {y : α} (h : l.dropWhile p = y :: r) : p y = false := by
  induction l with
  | nil => cases h
  | cons a l ih =>
    rw [List.dropWhile_cons] at h
    split at h
    · exact ih h
    · rename_i ha
      injection h with h1 _
      rw [← h1]
      simpa using ha
theorem mem_takeWhile {α : Type} (p : α → Bool) (l : List α) : ∀ a ∈ l.takeWhile p, p a = true := by
  induction l with
  | nil => intro a h; cases h
  | cons b l ih =>
    intro a ha
    rw [List.takeWhile_cons] at ha
    split at ha
    · rename_i hb
      rcases List.mem_cons.1 ha with rfl | h
      · exact hb
      · exact ih a h
    · cases ha

theorem parts (l : List En) (hs : SortP l) (t : ByteArray) : ∃ A D C, Parts l t A D C := by
  obtain ⟨A, hA⟩ : ∃ A, A = l.takeWhile fun y => ltE y ⟨t, 0⟩ := ⟨_, rfl⟩
  obtain ⟨B, hB⟩ : ∃ B, B = l.dropWhile fun y => ltE y ⟨t, 0⟩ := ⟨_, rfl⟩
  have hk : lowE l t = A.length := by rw [hA]; rfl
  have ht : l.take (lowE l t) = A := by rw [hk, hA, takeWhile_len_take]
  have hd : l.drop (lowE l t) = B := by rw [hk, hA, takeWhile_len_drop, hB]
  have hl : l = A ++ B := by rw [hA, hB, List.takeWhile_append_dropWhile]
  have hlo : ∀ a ∈ A, ltN a.name t = true := fun a ha => by rw [hA] at ha; exact mem_takeWhile _ _ a ha
  have hBs : SortP B := by
    unfold SortP at hs ⊢
    rw [hl, List.pairwise_append] at hs
    exact hs.2.1
  have hget : ∀ y r, B = y :: r → lowE l t < l.length ∧ l.getD (lowE l t) default = y := fun y r e => by
    have hlen : l.length = A.length + B.length := by rw [hl, List.length_append]
    have h1 : lowE l t < l.length := by rw [hk, hlen, e, List.length_cons]; omega
    have := drop_getD h1
    rw [hd, e] at this
    injection this with h2 _
    exact ⟨h1, h2.symm⟩
  have hhead : ∀ y r, B = y :: r → ltN y.name t = false := fun y r e =>
    dropWhile_head (p := fun y => ltE y ⟨t, 0⟩) (l := l) (r := r) (hB.symm.trans e)
  cases hBB : B with
  | nil =>
    have hlen : lowE l t = l.length := by rw [hk, hl, hBB, List.append_nil]
    have hhas : hasE l t = false := by
      unfold hasE
      rw [hlen, decide_eq_false (by omega), Bool.false_and]
    refine ⟨A, [], [], by rw [hl, hBB]; rfl, hlo, (fun c h => by cases h), .inr ⟨hhas, rfl, by unfold findE; rw [hhas]; rfl⟩, fun x hx => ?_⟩
    unfold withE
    rw [hx, hhas, if_neg (by decide)]
    unfold putE
    rw [ht, hd, hBB]
  | cons y r =>
    obtain ⟨h1, h2⟩ := hget y r hBB
    have h3 := hhead y r hBB
    rw [hBB] at hBs
    unfold SortP at hBs
    rw [List.pairwise_cons] at hBs
    by_cases he : eqN y.name t = true
    · have hyt := (eqN_iff _ _).1 he
      have hhas : hasE l t = true := by
        unfold hasE
        rw [h2, hyt, decide_eq_true h1, (cmpN_eq t t).2 rfl]
        rfl
      refine ⟨A, [y], r, by rw [hl, hBB]; rfl, hlo, fun c hc => by rw [← hyt]; exact hBs.1 c hc, .inl ⟨hhas, y, rfl, hyt, by unfold findE; rw [hhas, if_pos rfl, h2]⟩, fun x hx => ?_⟩
      unfold withE
      rw [hx, hhas, if_pos rfl, List.set_eq_take_append_cons_drop, if_pos h1, ht]
      congr 2
      have := congrArg (List.drop 1) hd
      rw [List.drop_drop, hBB] at this
      simpa using this
    · have he' : eqN y.name t = false := by simpa using he
      have hty : ltN t y.name = true := ltN_of h3 he'
      have hhas : hasE l t = false := by
        unfold hasE
        rw [h2, decide_eq_false (fun h => he ((eqN_iff _ _).2 ((cmpN_eq _ _).1 h))), Bool.and_false]
      refine ⟨A, [], y :: r, by rw [hl, hBB]; rfl, hlo, fun c hc => ?_, .inr ⟨hhas, rfl, by unfold findE; rw [hhas]; rfl⟩, fun x hx => ?_⟩
      · rcases List.mem_cons.1 hc with rfl | hc
        · exact hty
        · exact blq_trans hty (hBs.1 c hc)
      · unfold withE
        rw [hx, hhas, if_neg (by decide)]
        unfold putE
        rw [ht, hd, hBB]

theorem Parts.ne {l : List En} {t : ByteArray} {A D C : List En} (h : Parts l t A D C) : (∀ a ∈ A, eqN a.name t = false) ∧ ∀ c ∈ C, eqN c.name t = false := ⟨fun a ha => ltN_ne (h.lo a ha), fun c hc => ltN_ne' (h.hi c hc)⟩
theorem Parts.drop {l : List En} {t : ByteArray} {A D C : List En} (h : Parts l t A D C) : dropE l t = A ++ C := by
  obtain ⟨n1, n2⟩ := h.ne
  rw [h.eq, dropE_append, dropE_append, drop_skip n1, drop_skip n2]
  have : dropE D t = [] := by
    rcases h.mid with ⟨-, y, rfl, hy, -⟩ | ⟨-, rfl, -⟩
    · have : eqN y.name t = true := (eqN_iff _ _).2 hy
      simp [dropE, this]
    · rfl
  rw [this, List.nil_append]
theorem Parts.drop_with {l : List En} {t : ByteArray} {A D C : List En} (h : Parts l t A D C) {x : En} (hx : x.name = t) : dropE (withE l x) t = dropE l t := by
  obtain ⟨n1, n2⟩ := h.ne
  rw [h.drop, h.put x hx, dropE_append, drop_skip n1]
  have : dropE (x :: C) t = C := by
    show dropE ([x] ++ C) t = C
    rw [dropE_append, drop_skip n2]
    have : eqN x.name t = true := (eqN_iff _ _).2 hx
    simp [dropE, this]
  rw [this]
theorem Parts.sorted {l : List En} {t : ByteArray} {A D C : List En} (h : Parts l t A D C) (hs : SortP l) {x : En} (hx : x.name = t) : SortP (withE l x) := by
  rw [h.put x hx]
  unfold SortP at hs ⊢
  rw [h.eq, List.pairwise_append, List.pairwise_append] at hs
  rw [List.pairwise_append, List.pairwise_cons]
  refine ⟨hs.1, ⟨fun c hc => ?_, hs.2.1.2.1⟩, fun a ha b hb => ?_⟩
  · rw [ltE_iff, hx]; exact h.hi c hc
  · rcases List.mem_cons.1 hb with rfl | hb
    · rw [ltE_iff, hx]; exact h.lo a ha
    · exact hs.2.2 a ha b (List.mem_append_right _ hb)
theorem Parts.ref {l : List En} {t : ByteArray} {A D C : List En} (h : Parts l t A D C) : (hasE l t = true ∧ refL l t = findE l t) ∨ (hasE l t = false ∧ refL l t = -1 ∧ findE l t = 0) := by
  obtain ⟨n1, n2⟩ := h.ne
  rcases h.mid with ⟨h1, y, rfl, hy, hf⟩ | ⟨h1, rfl, hf⟩
  · refine .inl ⟨h1, ?_⟩
    rw [hf, h.eq, refL_skip n1]
    show refL (y :: C) t = _
    rw [refL_cons, (eqN_iff _ _).2 hy, if_pos rfl]
  · refine .inr ⟨h1, ?_, hf⟩
    rw [h.eq, refL_skip n1]
    exact refL_none n2
theorem Parts.ref_with {l : List En} {t : ByteArray} {A D C : List En} (h : Parts l t A D C) {x : En} (hx : x.name = t) : refL (withE l x) t = x.ino := by
  rw [h.put x hx, refL_skip h.ne.1, refL_cons, (eqN_iff _ _).2 hx, if_pos rfl]
theorem Parts.lens {l : List En} {t : ByteArray} {A D C : List En} (h : Parts l t A D C) {x : En} (hx : x.name = t) : (withE l x).length = (if hasE l t = true then l.length else l.length + 1) ∧ (dropE l t).length + 1 = (withE l x).length := by
  rw [h.drop, h.put x hx]
  simp only [List.length_append, List.length_cons]
  rcases h.mid with ⟨h1, y, rfl, -, -⟩ | ⟨h1, rfl, -⟩
  · rw [h1, if_pos rfl]
    have := congrArg List.length h.eq
    simp only [List.length_append, List.length_cons, List.length_nil] at this
    omega
  · rw [h1, if_neg (by decide)]
    have := congrArg List.length h.eq
    simp only [List.length_append, List.length_nil] at this
    omega
theorem Parts.ref_drop {l : List En} {t : ByteArray} {A D C : List En} (h : Parts l t A D C) (hs : SortP l) {z : En} (hz : z ∈ l) (hne : eqN z.name t = false) : refL (dropE l t) z.name = z.ino := by
  refine refL_mem ?_ ?_
  · unfold SortP dropE at *
    exact hs.filter _
  · unfold dropE
    rw [List.mem_filter]
    exact ⟨hz, by rw [hne]; rfl⟩
end Go.Proofs.Ytlopdbhjdijlmaa

namespace Go.Proofs.Ytlopdbhjdijlmaa
open Go.ChangeShapes Go.WideShapes Go.ChangeAt Go.RowKit
set_option linter.unusedSimpArgs false
set_option linter.unusedVariables false

def n09 : Ino := ⟨0, 2, 0, 0, List.replicate 13 0, []⟩
def x09 : En := ⟨⟨#[97]⟩, 7⟩
theorem sortP_nil : SortP [] := List.Pairwise.nil
theorem with09 : withE n09.ents x09 = [x09] := by
  obtain ⟨A, D, C, h⟩ := parts [] sortP_nil x09.name
  have e := h.eq
  have hA : A = [] := by cases A with | nil => rfl | cons a r => cases e
  subst hA
  have hC : C = [] := by
    cases D with
    | nil => cases C with | nil => rfl | cons a r => cases e
    | cons a r => cases e
  subst hC
  exact h.put x09 rfl
theorem find09 : hasE [x09] x09.name = true ∧ findE [x09] x09.name = 7 := by
  have hs : SortP [x09] := by unfold SortP; simp
  obtain ⟨A, D, C, h⟩ := parts [x09] hs x09.name
  have hr : refL [x09] x09.name = 7 := by rw [refL_cons, eqN_self, if_pos rfl]; rfl
  rcases h.ref with ⟨h1, h2⟩ | ⟨h1, h2, -⟩
  · exact ⟨h1, by rw [← h2, hr]⟩
  · rw [hr] at h2; cases h2

set_option maxRecDepth 20000 in
set_option maxHeartbeats 2000000 in
theorem awake9 (w : World) : Calls Try.prog 9 #[] w fun e w' => e = .returned (.bool true) ∧ Below w.heap.size w w' := by
  have hw := with9 (w := w) (n := n09) (ev := .slice none 0 0) x09 (by rfl) (HoldsE.nil w) (Nat.zero_le _) (sortE_of sortP_nil)
  rw [with09] at hw
  obtain ⟨m, hm⟩ : ∃ m, m = entsI n09 [x09] := ⟨_, rfl⟩
  rw [← hm] at hw
  have hm13 : m.bl.length = 13 := by rw [hm]; rfl
  have hms : m.size = 1 := by rw [hm]; rfl
  have hme : m.ents = [x09] := by rw [hm]; rfl
  have HW : Hid (Calls Try.prog 14 #[.agg #[.int .i64 0, .int .i64 2, .int .i64 0, .int .i64 0, .int .i64 0, .int .i64 0, .int .i64 0, .int .i64 0, .int .i64 0, .int .i64 0, .int .i64 0, .int .i64 0, .int .i64 0, .int .i64 0, .int .i64 0, .int .i64 0, .int .i64 0, .slice none 0 0], .agg #[.string ⟨#[97]⟩, .int .i64 7]] w fun e w' => ∃ ao c, e = .returned (.agg (inoL m (.slice ao 1 c)).toArray) ∧ HoldsE w' (.slice ao 1 c) m.ents ∧ Below w.heap.size w w') := by
    have e : inoA n09 (.slice none 0 0) = #[.int .i64 0, .int .i64 2, .int .i64 0, .int .i64 0, .int .i64 0, .int .i64 0, .int .i64 0, .int .i64 0, .int .i64 0, .int .i64 0, .int .i64 0, .int .i64 0, .int .i64 0, .int .i64 0, .int .i64 0, .int .i64 0, .int .i64 0, .slice none 0 0] := inoA_lit0 0 2 0 0 _
    rw [e] at hw
    refine hw.mono ?_
    rintro e w' ⟨v', rfl, ho, hb⟩
    have hh := holdsE_of_own (l := [x09]) rfl ho
    rw [← hme] at hh
    have hh2 := hh
    obtain ⟨ao, c, rfl, -⟩ := hh2
    rw [hme] at hh ⊢
    exact ⟨ao, c, rfl, hh, hb⟩
  have HF : Hid (∀ wx ao c, HoldsE wx (.slice ao 1 c) m.ents → Calls Try.prog 13 #[.agg (inoL m (.slice ao 1 c)).toArray, .string ⟨#[97]⟩] wx fun e w' => e = .returned (.tuple #[.int .i64 7, .bool true]) ∧ Below wx.heap.size wx w') := fun wx ao c he => by
    have h := find9 (n := m) x09.name hm13 he (by rw [hme]; decide) (by rw [hme]; exact sortE_of (by unfold SortP; simp))
    rw [hme, find09.1, find09.2] at h
    exact h
  have HM13 := Lib.hid hm13
  have HMS := Lib.hid hms
  clear hw hm hm13 hms hme
  go_enter Try.func9, Try.ntmps9
  go_wp2_with fail
  refine HW.out.mono ?_
  rintro e w7 ⟨ao, c, rfl, hh, hb7⟩
  have HH := Lib.hid hh
  have HB7 := Lib.hid hb7
  clear hh hb7
  have hszA : (inoL m (.slice ao 1 c)).toArray.size = 18 := by rw [List.size_toArray]; exact inoL_len HM13.out _
  have HISZ : Hid ((Try.prog.info? 25).map (·.size) = some (inoL m (.slice ao 1 c)).toArray.size) := by unfold Hid; rw [hszA]; exact Try.info18
  have HISM : Hid ((Try.prog.info? 25).map (·.size) = some (inoL m (.slice ao 1 c)).length) := by unfold Hid; rw [inoL_len HM13.out]; exact Try.info18
  have HONE : Hid ((inoL m (.slice ao 1 c)).toArray.all (·.oneCell') = true) := all_oneCell_toArray (inoL_one rfl)
  have HTH : Hid ((w7.alloc (.cells z18 25)).there w7.heap.size 0 (inoL m (.slice ao 1 c)).toArray.size) := by unfold Hid; rw [hszA]; exact ino_there w7 _
  have HROW := Lib.hid (ino_row w7 25 (inoL m (.slice ao 1 c)) (inoL_len HM13.out _))
  clear hszA
  go_upto_region 2 with (with_reducible refine wpList_store_mid (op := ⟨none, _, _, _, _, _⟩) rfl 25 _ _ rfl w7.heap.size 0 (inoL m (.slice ao 1 c)).toArray rfl rfl HTH.out HISZ.out HONE.out ?_)
  try simp only [Act.put]
  have HIX : Hid (InoB ((w7.alloc (.cells z18 25)).setCells w7.heap.size 0 (inoL m (.slice ao 1 c))) w7.heap.size m (.slice ao 1 c)) := ⟨HROW.out.1, HM13.out⟩
  have HMX : Hid (Mod nob w7 ((w7.alloc (.cells z18 25)).setCells w7.heap.size 0 (inoL m (.slice ao 1 c)))) := mod_of_below HROW.out.2
  clear HROW HTH HISZ HONE
  generalize (w7.alloc (.cells z18 25)).setCells w7.heap.size 0 (inoL m (.slice ao 1 c)) = w8 at *
  obtain ⟨X, hX⟩ : ∃ X, X = w7.heap.size := ⟨_, rfl⟩
  rw [← hX] at HIX ⊢
  clear hX
  have HRX := Lib.hid (HIX.out.at.range HM13.out)
  have HFX := Lib.hid (HF.out w8 ao c (HH.out.mod HMX.out (fun _ _ _ h => h)))
  go_upto_region 3 with (first
    | (with_reducible refine wpList_load_mid (op := ⟨some 8, _, _, _, _, _⟩) rfl 25 _ rfl X 0 rfl (inoL m (.slice ao 1 c)) _ HRX.out Try.underlying25 rfl HISM.out ?_)
    | (go_at_call 13; (with_reducible refine HFX.out.mono ?_); (rintro e w9 ⟨rfl, hb9⟩)))
  have c3 := (HIX.out.mod (mod_of_below hb9) (fun h => h)).at.c3
  rw [HMS.out, Nat.zero_add] at c3
  have HB9 : Hid (Below w.heap.size w w9) := HB7.out.trans ((nob_mod_below (HMX.out.step (mod_of_below hb9) (fun _ h => h))).mono HB7.out.size)
  clear hb9 HIX HRX HFX HMX
  go_wp2_with fail
  go_ret
  exact ⟨rfl, HB9.out⟩
end Go.Proofs.Ytlopdbhjdijlmaa
