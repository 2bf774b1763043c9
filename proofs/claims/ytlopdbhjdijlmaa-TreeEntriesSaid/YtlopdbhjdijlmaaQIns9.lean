/-
  slices.Clone and slices.Insert at directories' entries: contracts. No condition but the bounds that are typed.
-/
import Derived.Test.YtlopdbhjdijlmaaQInsM
import Derived.Test.YtlopdbhjdijlmaaQRead1
import Derived.Lib.Overlaps
import Derived.Lib.AppendZerosOnto
import Derived.Lib.SliceRun
import Derived.Laws.Externs
import Derived.Deep.RegionLaw

namespace Go.Proofs.Ytlopdbhjdijlmaa
open Go.ChangeShapes Go.WideShapes Go.ChangeAt Go.RowKit
set_option linter.unusedSimpArgs false
set_option linter.unusedVariables false

theorem Try.infoEntry9 : (Try.prog.info? 27).map (fun i => (i.zero, i.size, i.bytes)) = some (some (.agg #[.string ⟨#[]⟩, .int .i64 0]), 2, 24) := by kernel_rfl
section
variable {P : Program}
theorem run_copy_k (w : World) (dT sT ty elem : TypeId) (size b o dLen dCap : Nat) (a : Addr) (sLen sCap : Nat) (cs : List Value)
    (hu : P.underlying dT = some (.slice elem)) (hs : (P.info? elem).map (·.size) = some size) (hn : cs.length = Nat.min sLen dLen * size)
    (hsrc : ∀ j v, cs[j]? = some v → w.cell? (a.add j) = some v) (hc : ∀ j, j < cs.length → (w.cell? ⟨b, o + j, none⟩).isSome = true) (hf : ∀ j, j < cs.length → w.frozen? ⟨b, o + j, none⟩ = false) (h1 : ∀ v ∈ cs, v.oneCell' = true) :
    (Builtin.copy_ #[dT, sT] ty #[.slice (some ⟨b, o, none⟩) dLen dCap, .slice (some a) sLen sCap]).run P w = .ok (goInt (Nat.min sLen dLen)) (w.setCells b o cs) := by
  have hl := run_loadCells_list (P := P) w a cs hsrc
  have hst := run_storeCells_cells (P := P) b o cs 0 w (by simpa using hc) (by simpa using hf) h1
  cases hq : P.info? elem with
  | none => simp [hq] at hs
  | some i =>
    have hi : i.size = size := by simpa [hq] using hs
    simp [Builtin.copy_, run_underlying hu, Builtin.lenOf, Builtin.firstCells, sizeOf, typeInfo, hq, hi, ← hn, hl, hst]

/-- Into a block that is known whole. -/
theorem run_copy_in (w : World) (dT sT ty elem : TypeId) (size b o dLen dCap : Nat) (a : Addr) (sLen sCap m : Nat) (cs pre mid post : List Value) (t : TypeId)
    (hu : P.underlying dT = some (.slice elem)) (hs : (P.info? elem).map (·.size) = some size) (hm : Nat.min sLen dLen = m) (hn : cs.length = m * size)
    (hsrc : ∀ j v, cs[j]? = some v → w.cell? (a.add j) = some v) (hb : w.heap[b]? = some (.cells (pre ++ (mid ++ post)).toArray t (0, 0))) (hp : pre.length = o) (hl : mid.length = cs.length) (h1 : ∀ v ∈ cs, v.oneCell' = true) :
    (Builtin.copy_ #[dT, sT] ty #[.slice (some ⟨b, o, none⟩) dLen dCap, .slice (some a) sLen sCap]).run P w = .ok (goInt m) (w.setCells b o cs) := by
  rw [← hm]
  refine run_copy_k w dT sT ty elem size b o dLen dCap a sLen sCap cs hu hs (by rw [hm]; exact hn) hsrc (fun j hj => ?_) (fun j hj => frozen_of_row _ _ _ _ _ hb) h1
  rw [cell_of_row _ _ _ _ _ _ hb, Array.getElem?_eq_getElem (show o + j < (pre ++ (mid ++ post)).toArray.size by rw [List.size_toArray, List.length_append, List.length_append]; omega)]
  rfl

theorem wpList_copy_r {w : World} {ops : Array Oper} {rest : List Oper} {o : Oper} {a : Act} {Q : Exit → Act → World → Prop} (hgd : o.guard = none) (d s : Operand) (t t' : TypeId)
    (ho : o.op = .call { callee := .builtin .copy, args := #[d, s], argTypes := #[t, t'] }) (v u : Value) (hd : a.eval d = v) (hs : a.eval s = u) {v' : Value} {w' : World}
    (hr : (Builtin.copy_ #[t, t'] o.type #[v, u]).run P w = .ok v' w') (h : wpList P ops Q rest (a.put o.dst v') w') : wpList P ops Q (o :: rest) a w :=
  wpList_plain hgd fun _ hK => by
    unfold Oper.wp execOp
    simp only [ho, resolve, invoke, builtin, Sem.run_bind, Sem.run_pure, Result.andThen_ok, List.map_toArray, List.map_cons, List.map_nil, hd, hs, hr]
    exact hK _ _ h
theorem step_copy_r {ops : Array Oper} {o : Oper} {a : Act} {w : World} {K : Act → World → Prop} {Q : Exit → Act → World → Prop} {E : Prop}
    (hg : o.guard = none) (d x : Operand) (dT sT : TypeId) (hop : o.op = Op.call { callee := Callee.builtin Builtin.copy, args := #[d, x], argTypes := #[dT, sT] })
    (v u : Value) (hd : a.eval d = v) (hx : a.eval x = u) {v' : Value} {w' : World} (hr : (Builtin.copy_ #[dT, sT] o.type #[v, u]).run P w = .ok v' w') (hK : K (a.put o.dst v') w') :
    if Region.wanted o (yielded ops a.tmps) = true then Oper.wp P o a w K Q else E := by
  have hw : Region.wanted o (yielded ops a.tmps) = true := by simp [Region.wanted, hg]
  rw [if_pos hw]
  unfold Oper.wp
  simp [execOp, hop, resolve, invoke, builtin, hd, hx, hr, Result.andThen]
  exact hK
end

theorem shape_of_row {w : World} {b : Nat} {cs : Array Value} {t : TypeId} {fr : Nat × Nat} (h : w.heap[b]? = some (.cells cs t fr)) : w.shape? b = some (t, cs.size) := by
  unfold World.shape?
  rw [h]

/-- An entry among entries. -/
def putE (l : List En) (k : Nat) (x : En) : List En := l.take k ++ x :: l.drop k
theorem putE_len {l : List En} {k : Nat} (hk : k ≤ l.length) (x : En) : (putE l k x).length = l.length + 1 := by
  unfold putE
  rw [List.length_append, List.length_cons, List.length_take, List.length_drop]
  omega
theorem enC_put (l : List En) (k : Nat) (x : En) : enC (putE l k x) = enC (l.take k) ++ ([Value.string x.name, .int .i64 x.ino] ++ enC (l.drop k)) := by
  unfold putE
  rw [enC_append]
  rfl

set_option maxRecDepth 20000 in
set_option maxHeartbeats 1000000 in
theorem clone_any {w : World} {ev : Value} {l : List En} (he : HoldsE w ev l) (hl : l.length ≤ 1000) :
    Calls Try.prog 48 #[ev] w fun e w' => ∃ v', e = .returned v' ∧ w'.ownsRow w.heap.size 27 2 v' l.length (enC l) ∧ Below w.heap.size w w' := by
  obtain ⟨i1, hi1, hy0, hy1, hy2⟩ := info_parts Try.infoEntry9
  have HE := Lib.hid he
  obtain ⟨ao, c, rfl, e1, e2, e3, e4⟩ := he
  obtain ⟨n, hn⟩ : ∃ n, n = w.heap.size := ⟨_, rfl⟩
  have HN := Lib.hid hn
  rw [← hn]
  cases ao with
  | none =>
    obtain rfl : c = 0 := e3 rfl
    have hl0 : l = [] := List.eq_nil_of_length_eq_zero (by omega)
    subst hl0
    clear e4 HE hn
    have hnil : ∀ w, (binOp .eql 23 (.slice none 0 0) (.slice none 0 0)).run Try.prog w = .ok (.bool true) w := fun w => Lib.run_eql_slice_nil (P := Try.prog) w 23 27 none 0 0 0 0 Try.underlying23
    go_enter Try.func48, Try.ntmps48
    go_wp2
    go_ret
    exact ⟨_, rfl, World.ownsRow_nil _ _ _ _, by rw [HN.out]; exact Below.refl _ _⟩
  | some ad =>
    obtain ⟨L, hL⟩ : ∃ L, L = l.length := ⟨_, rfl⟩
    have HL := Lib.hid hL
    have HM : Hid (Mod nob w (w.alloc (.cells #[] 27))) := (Mod.refl nob w).alloc _
    have O0 : Hid ((w.alloc (.cells #[] 27)).ownsRow n 27 2 (.slice (some ⟨w.heap.size, 0, none⟩) 0 0) 0 []) := own_block (heap_alloc_new _ _) (by rw [hn]; exact Nat.le_refl _) (Nat.zero_le _) rfl
    have HC := Lib.hid ((HE.out.mod HM.out (fun _ _ _ h => h)).cells)
    rw [← hL] at HC hl HE ⊢
    have hge : n ≤ (w.alloc (.cells #[] 27)).heap.size := by rw [hn]; exact HM.out.size
    have HGE := Lib.hid hge
    have hnil : ∀ w, (binOp .eql 23 (.slice (some ad) L c) (.slice none 0 0)).run Try.prog w = .ok (.bool false) w := fun w => Lib.run_eql_slice_nil (P := Try.prog) w 23 27 (some ad) L c 0 0 Try.underlying23
    clear e4 hge e3 hL
    go_enter Try.func48, Try.ntmps48
    go_upto_region 3 with (fail)
    go_wp2_with (with_reducible refine wpList_append_any (o := ⟨some 7, _, _, _, _, _⟩) rfl (.tmp 5) (.tmp 6) _ rfl n 27 i1 _ 2 24 Try.underlying23 hi1 hy0 hy1 hy2 rfl (by omega) (.slice (some ⟨w.heap.size, 0, none⟩) 0 0) 0 ([]) rfl O0.out (.slice (some ad) L c) L (enC l) rfl HC.out ?_ (enC_one _) (by unfold maxLen; omega) (by omega) HGE.out ?_)
    case refine_1 => rw [enC_len, HL.out]
    case refine_2 =>
      intro v' w' hown hgr _
      have HO := Lib.hid hown
      have HM2 : Hid (Mod nob w w') := mod_grown HM.out hgr (fun k hk => by cases hk; exact Nat.le_refl _)
      clear hown hgr
      go_wp2
      go_ret
      exact ⟨_, rfl, by rw [HN.out]; exact HO.out, by rw [HN.out]; exact nob_mod_below HM2.out⟩

theorem zeroCells_len (z : Array Value) (k : Nat) : (Builtin.zeroCells z k).size = k * z.size := by simp [Builtin.zeroCells]

set_option maxRecDepth 20000 in
set_option maxHeartbeats 4000000 in
theorem insert9 {w : World} {base : Nat} {v : Value} {l : List En} (x : En) (k : Nat) (hk : k ≤ l.length) (hl : l.length ≤ 1000) (hown : w.ownsRow base 27 2 v l.length (enC l)) (hbase : base ≤ w.heap.size)
    {vb : Nat} (hvb : w.heap[vb]? = some (.cells #[.string x.name, .int .i64 x.ino] 27 (0, 0))) (hne : v.ownBlock ≠ some vb) :
    Calls Try.prog 49 #[v, .int .i64 (k : Nat), .slice (some ⟨vb, 0, none⟩) 1 1] w fun e w' => ∃ v', e = .returned v' ∧ w'.ownsRow base 27 2 v' (l.length + 1) (enC (putE l k x)) ∧ Mod (fun q => v.ownBlock = some q) w w' := by
  obtain ⟨i1, hi1, hy0, hy1, hy2⟩ := info_parts Try.infoEntry9
  obtain ⟨nm, ino⟩ := x
  dsimp only at hvb
  have HVB := Lib.hid hvb
  have HC1 : Hid (HoldsC w (.slice (some ⟨vb, 0, none⟩) 1 1) 1 [.string nm, .int .i64 ino]) := HoldsC.block (cs := #[.string nm, .int .i64 ino]) hvb (by unfold maxLen; omega)
  have HPE := Lib.hid (enC_put l k ⟨nm, ino⟩)
  obtain ⟨L, hL⟩ : ∃ L, L = l.length := ⟨_, rfl⟩
  have HL := Lib.hid hL
  rw [← hL] at hk hl hown ⊢
  have HO := Lib.hid hown
  have HNE := Lib.hid hne
  have HLN : Hid (([Value.string nm, .int .i64 ino]).length = 1 * 2) := rfl
  have HON : Hid (∀ u ∈ [Value.string nm, .int .i64 ino], u.oneCell' = true) := fun u hu => by simp only [List.mem_cons, List.not_mem_nil, or_false] at hu; rcases hu with rfl | rfl <;> rfl
  have HK63 : Hid (L + 1 ≤ maxLen) := by unfold Hid maxLen; omega
  have HKB : Hid ((L + 1) * 24 ≤ 140737488355328) := by unfold Hid; omega
  by_cases hkl : k = L
  · subst hkl
    have hput : enC (putE l k ⟨nm, ino⟩) = enC l ++ [.string nm, .int .i64 ino] := by
      rw [HPE.out, HL.out, List.take_length, List.drop_length, show enC [] = [] from rfl, List.append_nil]
    rw [hput]
    rcases hown.2 with ⟨rfl, h0⟩ | ⟨g, cap, cur, rfl, hbg, hg, hnc, hcm, hcs, htk⟩
    · obtain rfl : k = 0 := h0
      clear hput hL hvb hown HPE hne
      go_enter Try.func49, Try.ntmps49
      go_wp2_with (with_reducible refine wpList_append_any (o := ⟨some 25, _, _, _, _, _⟩) rfl (.tmp 23) (.tmp 24) _ rfl base 27 i1 _ 2 24 Try.underlying23 hi1 hy0 hy1 hy2 rfl (by omega) (.slice none 0 0) 0 (enC l) rfl HO.out (.slice (some ⟨vb, 0, none⟩) 1 1) 1 [.string nm, .int .i64 ino] rfl HC1.out HLN.out HON.out HK63.out HKB.out hbase ?_)
      intro v' w' hown hgr _
      have HO2 := Lib.hid hown
      have HG2 := Lib.hid hgr
      clear hown hgr
      go_wp2
      go_ret
      exact ⟨_, rfl, HO2.out, mod_of_grown HG2.out⟩
    · clear hput hL hvb hown HPE hne
      rcases Classical.em (cap = k) with hck | hck
      all_goals
        try subst hck
        go_enter Try.func49, Try.ntmps49
        go_wp2_with (first
          | (with_reducible refine wpList_append_any (o := ⟨some 25, _, _, _, _, _⟩) rfl (.tmp 23) (.tmp 24) _ rfl base 27 i1 _ 2 24 Try.underlying23 hi1 hy0 hy1 hy2 rfl (by omega) (.slice (some ⟨g, 0, none⟩) k cap) k (enC l) rfl HO.out (.slice (some ⟨vb, 0, none⟩) 1 1) 1 [.string nm, .int .i64 ino] rfl HC1.out HLN.out HON.out HK63.out HKB.out hbase ?_)
          | (with_reducible refine wpList_append_any (o := ⟨some 25, _, _, _, _, _⟩) rfl (.tmp 23) (.tmp 24) _ rfl base 27 i1 _ 2 24 Try.underlying23 hi1 hy0 hy1 hy2 rfl (by omega) (.slice (some ⟨g, 0, none⟩) cap cap) cap (enC l) rfl HO.out (.slice (some ⟨vb, 0, none⟩) 1 1) 1 [.string nm, .int .i64 ino] rfl HC1.out HLN.out HON.out HK63.out HKB.out hbase ?_))
        intro v' w' hown hgr _
        have HO2 := Lib.hid hown
        have HG2 := Lib.hid hgr
        clear hown hgr
        go_wp2
        go_ret
        exact ⟨_, rfl, HO2.out, mod_of_grown HG2.out⟩
  · rcases hown.2 with ⟨rfl, h0⟩ | ⟨b, c, cur, rfl, hbg, hg, hnc, hcm, hcs, htk⟩
    · omega
    · have hbv : b ≠ vb := fun e => hne (by subst e; rfl)
      -- the row: ahead of k, the first behind it, the others, what is spare
      obtain ⟨A, hA⟩ : ∃ A, A = enC (l.take k) := ⟨_, rfl⟩
      obtain ⟨M, hM⟩ : ∃ M, M = enC (l.drop k) := ⟨_, rfl⟩
      obtain ⟨S, hS⟩ : ∃ S, S = cur.toList.drop (L * 2) := ⟨_, rfl⟩
      have hAl : A.length = k * 2 := by rw [hA, enC_len, List.length_take]; congr 1; omega
      have hMl : M.length = (L - k) * 2 := by rw [hM, enC_len, List.length_drop, ← hL]
      have hAM : A ++ M = enC l := by rw [hA, hM, ← enC_append, List.take_append_drop]
      have hcur : cur = (A ++ (M ++ S)).toArray := by
        rw [← List.append_assoc, hAM, ← htk, hS, List.take_append_drop, Array.toArray_toList]
      have hSl : S.length = (c - L) * 2 := by rw [hS, List.length_drop, Array.length_toList, hcs, ← Nat.sub_mul]
      have h1M : ∀ u ∈ M, u.oneCell' = true := by rw [hM]; exact enC_one _
      rw [hcur] at hg
      have hput : enC (putE l k ⟨nm, ino⟩) = A ++ ([.string nm, .int .i64 ino] ++ M) := by rw [HPE.out, ← hA, ← hM]
      rw [hput]
      have hsz : (Try.prog.info? 27).map (·.size) = some 2 := by rw [hi1]; simp [hy1]
      have HG := Lib.hid hg
      have HP := Lib.hid hput
      have HU := Lib.hid Try.underlying23
      clear hput HPE HC1 hown hA hM hS hAM hcur htk hcs hvb hL hg hne HO
      have hkL : k < L := by omega
      have hz2 : ¬ ((k : Int) = (L : Int)) := by omega
      have hin : (k : Int) ≤ (L : Int) := by omega
      obtain ⟨M1, hM1⟩ : ∃ M1, M1 = M.take 2 := ⟨_, rfl⟩
      obtain ⟨M2, hM2⟩ : ∃ M2, M2 = M.drop 2 := ⟨_, rfl⟩
      have hMM : M = M1 ++ M2 := by rw [hM1, hM2, List.take_append_drop]
      have hM1l : M1.length = 2 := by rw [hM1, List.length_take, hMl]; omega
      have hM2l : M2.length = (L - k) * 2 - 2 := by rw [hM2, List.length_drop, hMl]
      have hbsrc : Hid (∀ j v, M[j]? = some v → w.cell? ((⟨b, k * 2, none⟩ : Addr).add j) = some v) := fun j v hj => by
        rw [Addr.add_lit, cell_of_row _ _ _ _ _ _ HG.out, List.getElem?_toArray, List.getElem?_append_right (by omega), show k * 2 + j - A.length = j by omega, List.getElem?_append_left (by have := (List.getElem?_eq_some_iff.1 hj).1; omega)]
        exact hj
      have HX1 : Hid (∀ v ∈ [Value.string nm, .int .i64 ino], v.oneCell' = true) := HON.out
      clear hM1 hM2
      by_cases hroom : L + 1 ≤ c
      · obtain ⟨S1, hS1⟩ : ∃ S1, S1 = S.take 2 := ⟨_, rfl⟩
        obtain ⟨S2, hS2⟩ : ∃ S2, S2 = S.drop 2 := ⟨_, rfl⟩
        have hSS : S = S1 ++ S2 := by rw [hS1, hS2, List.take_append_drop]
        have hS1l : S1.length = 2 := by rw [hS1, List.length_take, hSl]; omega
        have hS2l : S2.length = (c - L) * 2 - 2 := by rw [hS2, List.length_drop, hSl]
        have hov : ∀ o lb cb, (callFunc 82 #[.slice (some ⟨vb, 0, none⟩) 1 1, .slice (some ⟨b, o, none⟩) lb cb]).run Try.prog w = .ok (.value (.bool false)) w := fun o lb cb => by
          rw [run_callFunc_extern Try.func82 (by kernel_rfl) (by kernel_rfl) (by kernel_rfl) (e := Extern.SlicesOverlaps.overlaps #[23, 23] #[4]) (by kernel_rfl),
            Lib.run_overlaps_apart w 23 4 27 Try.underlying23 2 (fun w => by simp [sizeOf, typeInfo, hi1, hy1]) ⟨vb, 0, none⟩ ⟨b, o, none⟩ 1 1 lb cb (fun e => hbv e.symm) 27 27 2 _ (shape_of_row HVB.out) (shape_of_row HG.out) (by rw [List.size_toArray, List.length_append, List.length_append]; omega) (frozen_of_row _ _ _ _ _ HVB.out) (frozen_of_row _ _ _ _ _ HVB.out)]
          rfl
        have hb2 : ¬ (c = k + 1) := by omega
        have hb4 : ¬ (c = k) := by omega
        have hroomi : ¬ ((c : Int) < (L : Int) + 1) := by omega
        have hw1 : IntKind.i64.wrap ((k : Int) + 1) = (k : Int) + 1 := by rw [IntKind.wrap_i64]; omega
        have hb1 : (0 : Int) ≤ (k : Int) + 1 := by omega
        have htn : ((k : Int) + 1).toNat = k + 1 := by omega
        have hb3 : (k : Int) ≤ (L : Int) + 1 := by omega
        clear hS1 hS2
        go_enter Try.func49, Try.ntmps49
        have hgd : w.drew.heap[b]? = some (.cells ((A ++ M1) ++ ((M2 ++ S1) ++ S2)).toArray 27 (0, 0)) := by
          have h := HG.out
          rw [hMM, hSS, show A ++ (M1 ++ M2 ++ (S1 ++ S2)) = A ++ M1 ++ (M2 ++ S1 ++ S2) by simp only [List.append_assoc]] at h
          exact h
        have hpl : (A ++ M1).length = (k + 1) * 2 := by rw [List.length_append]; omega
        have hml : (M2 ++ S1).length = M.length := by rw [List.length_append]; omega
        have hcp1 : Hid (∀ ty dl dc sl sc, Nat.min sl dl = L - k → (Builtin.copy_ #[23, 23] ty #[.slice (some ⟨b, (k + 1) * 2, none⟩) dl dc, .slice (some ⟨b, k * 2, none⟩) sl sc]).run Try.prog w.drew = .ok (goInt (L - k : Nat)) (w.drew.setCells b ((k + 1) * 2) M)) := fun ty dl dc sl sc hmin =>
          run_copy_in w.drew _ _ ty 27 2 b ((k + 1) * 2) dl dc ⟨b, k * 2, none⟩ sl sc (L - k) M (A ++ M1) (M2 ++ S1) S2 27 HU.out hsz hmin hMl hbsrc.out hgd hpl hml h1M
        have hg1 := heap_setCells_mid b 27 M (A ++ M1) (M2 ++ S1) S2 w.drew hgd hml
        rw [hpl] at hg1
        have HG1 : Hid ((w.drew.setCells b ((k + 1) * 2) M).heap[b]? = some (.cells (A ++ (M1 ++ (M ++ S2))).toArray 27 (0, 0))) := by unfold Hid; rw [hg1, List.append_assoc]
        have HM1 : Hid (Mod (fun q => b = q) w (w.drew.setCells b ((k + 1) * 2) M)) := Mod.setCells b (.inl rfl) _ _ _ ((Mod.refl _ w).drew)
        clear hgd hpl hml hg1 hMM hSS
        go_upto_region 15 with (simp only [hov])
        have HR1 := Lib.hid (hcp1.out 3 (L - k) (c - (k + 1)) (L + 1 - k) (c - k) (by simp only [Nat.min_def]; split <;> omega))
        clear hcp1
        go_region_law (refine step_copy_r (o := ⟨some 77, _, _, _, _, _⟩) rfl (.tmp 73) (.tmp 76) 23 23 rfl (.slice (some ⟨b, (k + 1) * 2, none⟩) (L - k) (c - (k + 1))) (.slice (some ⟨b, k * 2, none⟩) (L + 1 - k) (c - k)) (by simp [Act.eval, Act.put]) (by simp [Act.eval, Act.put]) HR1.out ?_)
        have HVB1 : Hid ((w.drew.setCells b ((k + 1) * 2) M).heap[vb]? = some (.cells #[.string nm, .int .i64 ino] 27 (0, 0))) := HM1.out.heap HVB.out (fun e => hbv e)
        generalize w.drew.setCells b ((k + 1) * 2) M = w1 at *
        clear HR1 hov
        have hsv : ∀ j v, [Value.string nm, .int .i64 ino][j]? = some v → w1.cell? ((⟨vb, 0, none⟩ : Addr).add j) = some v := fun j v hj => by
          rw [Addr.add_lit, Nat.zero_add, cell_of_row _ _ _ _ _ _ HVB1.out]
          simpa using hj
        have HR2 : Hid (∀ ty dl dc, 1 ≤ dl → (Builtin.copy_ #[23, 23] ty #[.slice (some ⟨b, k * 2, none⟩) dl dc, .slice (some ⟨vb, 0, none⟩) 1 1]).run Try.prog w1 = .ok (goInt (1 : Nat)) (w1.setCells b (k * 2) [.string nm, .int .i64 ino])) := fun ty dl dc hd =>
          run_copy_in w1 _ _ ty 27 2 b (k * 2) dl dc ⟨vb, 0, none⟩ 1 1 1 [.string nm, .int .i64 ino] A M1 (M ++ S2) 27 HU.out hsz (Nat.min_eq_left hd) rfl hsv HG1.out hAl hM1l HX1.out
        have hg2 := heap_setCells_mid b 27 [Value.string nm, .int .i64 ino] A M1 (M ++ S2) w1 HG1.out hM1l
        rw [hAl] at hg2
        have HG2 := Lib.hid hg2
        have HM2 : Hid (Mod (fun q => b = q) w (w1.setCells b (k * 2) [.string nm, .int .i64 ino])) := Mod.setCells b (.inl rfl) _ _ _ HM1.out
        have HR3 := Lib.hid (HR2.out 3 (L + 1 - k) (c - k) (by omega))
        clear hg2 hsv HR2
        go_wp2_with (with_reducible refine wpList_copy_r (o := ⟨some 82, _, _, _, _, _⟩) rfl (.tmp 80) (.tmp 81) 23 23 rfl (.slice (some ⟨b, k * 2, none⟩) (L + 1 - k) (c - k)) (.slice (some ⟨vb, 0, none⟩) 1 1) rfl rfl HR3.out ?_)
        go_ret
        refine ⟨_, rfl, ⟨?_, .inr ⟨b, c, _, rfl, hbg, HG2.out, hroom, hcm, ?_, ?_⟩⟩, HM2.out.mono (fun q _ e => by rw [← e]; rfl)⟩
        · simp only [List.length_append, hAl, hMl, List.length_cons, List.length_nil]; omega
        · simp only [List.size_toArray, List.length_append, hAl, hMl, hS2l, List.length_cons, List.length_nil]; omega
        · have hw : (A ++ ([Value.string nm, .int .i64 ino] ++ M)).length = (L + 1) * 2 := by simp only [List.length_append, hAl, hMl, List.length_cons, List.length_nil]; omega
          have e : A ++ ([Value.string nm, .int .i64 ino] ++ (M ++ S2)) = (A ++ ([Value.string nm, .int .i64 ino] ++ M)) ++ S2 := by simp only [List.append_assoc]
          show ((A ++ ([Value.string nm, .int .i64 ino] ++ (M ++ S2))).take ((L + 1) * 2)) = _
          rw [e, ← hw, List.take_left]
          rfl
      · have hcL : c < L + 1 := by omega
        have hci : (c : Int) < (L : Int) + 1 := by omega
        have hkk : (L : Int) + 1 - (k : Int) = ((L + 1 - k : Nat) : Int) := by omega
        have hik : k + (L + 1 - k) = L + 1 := by omega
        obtain ⟨z, hz⟩ : ∃ z : Value, z = .agg #[.string ⟨#[]⟩, .int .i64 0] := ⟨_, rfl⟩
        have hzc : z.cells.size = 2 := by rw [hz]; rfl
        rw [← hz] at hy0
        have hold : (Builtin.firstCells i1.size k (.slice (some ⟨b, 0, none⟩) k c)).run Try.prog w.drew = .ok A.toArray w.drew := by
          rw [hy1]
          exact run_firstCells_some w.drew 2 k ⟨b, 0, none⟩ k c A hAl (fun j v hj => by
            rw [Addr.add_lit, Nat.zero_add]
            show w.cell? ⟨b, j, none⟩ = some v
            rw [cell_of_row _ _ _ _ _ _ HG.out, List.getElem?_toArray, List.getElem?_append_left (List.getElem?_eq_some_iff.1 hj).1]
            exact hj)
        have hbig : (L + 1) * 24 ≤ 140737488355328 := by omega
        have hrz := Lib.run_append_grow_zeros (P := Try.prog) w 23 3 23 27 i1 z .i64 .i64 HU.out Try.underlying3 hi1 hy0 (some ⟨b, 0, none⟩) k c A hold (L + 1 - k) (by omega) (by omega) (by omega) (by omega) (by rw [hy2]; omega) (by rw [hy2, hik]; exact growslice_fits hcL hbig)
        rw [hik, ← hkk] at hrz
        obtain ⟨G, hG⟩ : ∃ G, G = grownCap w (L + 1) c 27 := ⟨_, rfl⟩
        rw [← hG] at hrz
        have hGn : L + 1 ≤ G := by rw [hG]; exact grownCap_ge w _ _ _
        have hGm : G ≤ maxLen := by rw [hG]; exact grownCap_le_maxLen w (L + 1) c 27 (by unfold maxLen; omega)
        obtain ⟨Z, hZ⟩ : ∃ Z : List Value, Z = (Builtin.zeroCells z.cells (L + 1 - k)).toList := ⟨_, rfl⟩
        obtain ⟨Zs, hZs⟩ : ∃ Z : List Value, Z = (Builtin.zeroCells z.cells (G - (L + 1))).toList := ⟨_, rfl⟩
        have hZl : Z.length = (L + 1 - k) * 2 := by rw [hZ, Array.length_toList, zeroCells_len, hzc]
        have hZsl : Zs.length = (G - (L + 1)) * 2 := by rw [hZs, Array.length_toList, zeroCells_len, hzc]
        have hrow : A.toArray ++ Builtin.zeroCells z.cells (L + 1 - k) ++ Builtin.zeroCells z.cells (G - (L + 1)) = (A ++ (Z ++ Zs)).toArray := by
          apply Array.toList_inj.1
          rw [hZ, hZs]
          simp [List.append_assoc]
        rw [hrow] at hrz
        obtain ⟨Z1, hZ1⟩ : ∃ Z1, Z1 = Z.take 2 := ⟨_, rfl⟩
        obtain ⟨Z2, hZ2⟩ : ∃ Z2, Z2 = Z.drop 2 := ⟨_, rfl⟩
        have hZZ : Z = Z1 ++ Z2 := by rw [hZ1, hZ2, List.take_append_drop]
        have hZ1l : Z1.length = 2 := by rw [hZ1, List.length_take, hZl]; omega
        have hZ2l : Z2.length = (L - k) * 2 := by rw [hZ2, List.length_drop, hZl]; omega
        rw [hZZ, List.append_assoc Z1 Z2 Zs] at hrz
        obtain ⟨N, hN⟩ : ∃ N, N = w.heap.size := ⟨_, rfl⟩
        obtain ⟨W1, hW1⟩ : ∃ W1, W1 = w.drew.alloc (.cells (A ++ (Z1 ++ (Z2 ++ Zs))).toArray 27) := ⟨_, rfl⟩
        rw [← hW1, ← hN] at hrz
        have HRZ := Lib.hid hrz
        have HM1 : Hid (Mod nob w W1) := by rw [hW1]; exact ((Mod.refl nob w).drew).alloc _
        have HGN : Hid (W1.heap[N]? = some (.cells (A ++ (Z1 ++ (Z2 ++ Zs))).toArray 27 (0, 0))) := by unfold Hid; rw [hW1, hN]; exact heap_alloc_new w.drew _
        have HVB1 : Hid (W1.heap[vb]? = some (.cells #[.string nm, .int .i64 ino] 27 (0, 0))) := HM1.out.heap HVB.out (fun e => e)
        have hsv : ∀ j v, [Value.string nm, .int .i64 ino][j]? = some v → W1.cell? ((⟨vb, 0, none⟩ : Addr).add j) = some v := fun j v hj => by
          rw [Addr.add_lit, Nat.zero_add, cell_of_row _ _ _ _ _ _ HVB1.out]
          simpa using hj
        have HR1 := Lib.hid (run_copy_in (P := Try.prog) W1 23 23 3 27 2 N (k * 2) (L + 1 - k) (G - k) ⟨vb, 0, none⟩ 1 1 1 [.string nm, .int .i64 ino] A Z1 (Z2 ++ Zs) 27 HU.out hsz (Nat.min_eq_left (by omega)) rfl hsv HGN.out hAl hZ1l HX1.out)
        have hg2 := heap_setCells_mid N 27 [Value.string nm, .int .i64 ino] A Z1 (Z2 ++ Zs) W1 HGN.out hZ1l
        rw [hAl, ← List.append_assoc A] at hg2
        have HG2 := Lib.hid hg2
        have HM2 : Hid (Mod nob w (W1.setCells N (k * 2) [.string nm, .int .i64 ino])) := Mod.setCells N (.inr (by rw [hN]; exact Nat.le_refl _)) _ _ _ HM1.out
        obtain ⟨W2, hW2⟩ : ∃ W2, W2 = W1.setCells N (k * 2) [.string nm, .int .i64 ino] := ⟨_, rfl⟩
        rw [← hW2] at HR1 HG2 HM2
        have HM2d : Hid (Mod nob w W2.drew) := HM2.out.drew
        have hpl : (A ++ [Value.string nm, .int .i64 ino]).length = (k + 1) * 2 := by rw [List.length_append, hAl]; simp only [List.length_cons, List.length_nil]; omega
        have hdN : W2.drew.heap[N]? = some (.cells ((A ++ [Value.string nm, .int .i64 ino]) ++ (Z2 ++ Zs)).toArray 27 (0, 0)) := HG2.out
        have HR2 := Lib.hid (run_copy_in (P := Try.prog) W2.drew 23 23 3 27 2 N ((k + 1) * 2) (L - k) (G - (k + 1)) ⟨b, k * 2, none⟩ (L - k) (c - k) (L - k) M (A ++ [.string nm, .int .i64 ino]) Z2 Zs 27 HU.out hsz (Nat.min_self _) hMl (fun j v hj => HM2d.out.cell (hbsrc.out j v hj) (fun e => e)) hdN hpl (by rw [hZ2l, hMl]) h1M)
        have hg3 := heap_setCells_mid N 27 M (A ++ [.string nm, .int .i64 ino]) Z2 Zs W2.drew hdN (by rw [hZ2l, hMl])
        rw [hpl] at hg3
        have HG3 := Lib.hid hg3
        have HM3 : Hid (Mod nob w (W2.drew.setCells N ((k + 1) * 2) M)) := Mod.setCells N (.inr (by rw [hN]; exact Nat.le_refl _)) _ _ _ HM2d.out
        have HNB : Hid (base ≤ N) := by rw [hN]; exact hbase
        have hGi : ¬ (G = k) := by omega
        have hGim : ¬ (G = k + 1) := by omega
        have hcik : ¬ (c = k) := by omega
        have hw1 : IntKind.i64.wrap ((k : Int) + 1) = (k : Int) + 1 := by rw [IntKind.wrap_i64]; omega
        have hb1 : (0 : Int) ≤ (k : Int) + 1 := by omega
        have htn : ((k : Int) + 1).toNat = k + 1 := by omega
        have hb3 : (k : Int) ≤ (L : Int) + 1 := by omega
        clear hMM hM1l hM2l hkk hik hold hG hZ hZs hrow hrz hZ1 hZ2 hZZ hN hW1 hW2 hsv hg2 hg3 hdN hpl hz hy0 hzc
        go_enter Try.func49, Try.ntmps49
        go_upto_region 11 with (first
          | (with_reducible refine Lib.wpList_append_run (o := ⟨some 40, _, _, _, _, _⟩) _ rfl (.tmp 34) (.tmp 39) 23 3 rfl (.slice (some ⟨b, 0, none⟩) k c) (.int .i64 ((L : Int) + 1 - (k : Int))) rfl rfl _ _ HRZ.out ?_)
          | (with_reducible refine wpList_copy_r (o := ⟨some 45, _, _, _, _, _⟩) rfl (.tmp 43) (.tmp 44) 23 23 rfl (.slice (some ⟨N, k * 2, none⟩) (L + 1 - k) (G - k)) (.slice (some ⟨vb, 0, none⟩) 1 1) rfl rfl HR1.out ?_))
        go_region_law (refine step_copy_r (o := ⟨some 54, _, _, _, _, _⟩) rfl (.tmp 50) (.tmp 53) 23 23 rfl (.slice (some ⟨N, (k + 1) * 2, none⟩) (L - k) (G - (k + 1))) (.slice (some ⟨b, k * 2, none⟩) (L - k) (c - k)) (by simp [Act.eval, Act.put]) (by simp [Act.eval, Act.put]) HR2.out ?_)
        go_wp2_with fail
        go_ret
        refine ⟨_, rfl, ⟨?_, .inr ⟨N, G, _, rfl, HNB.out, HG3.out, hGn, hGm, ?_, ?_⟩⟩, HM3.out.mono (fun q _ e => e.elim)⟩
        · simp only [List.length_append, hAl, hMl, List.length_cons, List.length_nil]; omega
        · simp only [List.size_toArray, List.length_append, hAl, hMl, hZsl, List.length_cons, List.length_nil]; omega
        · have hw : (A ++ ([Value.string nm, .int .i64 ino] ++ M)).length = (L + 1) * 2 := by simp only [List.length_append, hAl, hMl, List.length_cons, List.length_nil]; omega
          have e : A ++ [Value.string nm, .int .i64 ino] ++ (M ++ Zs) = (A ++ ([Value.string nm, .int .i64 ino] ++ M)) ++ Zs := by simp only [List.append_assoc]
          show ((A ++ [Value.string nm, .int .i64 ino] ++ (M ++ Zs)).take ((L + 1) * 2)) = _
          rw [e, ← hw, List.take_left]
          rfl
end Go.Proofs.Ytlopdbhjdijlmaa
