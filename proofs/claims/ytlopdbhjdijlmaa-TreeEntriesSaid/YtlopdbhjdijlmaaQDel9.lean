/-
  slices.IndexFunc and slices.DeleteFunc at directories' entries, by a name: contracts. No condition but the bounds that are typed.
-/
import Derived.Test.YtlopdbhjdijlmaaQIns9

namespace Go.Proofs.Ytlopdbhjdijlmaa
open Go.ChangeShapes Go.WideShapes Go.ChangeAt Go.RowKit
set_option linter.unusedSimpArgs false
set_option linter.unusedVariables false

def eqN (a b : ByteArray) : Bool := a.toList == b.toList

theorem without1_any (nm : ByteArray) (ino : Int) (t : ByteArray) (q : Nat) {W : World} (hq : W.cell? ⟨q, 0, none⟩ = some (.string t)) :
    Calls Try.prog 51 #[.agg #[.string nm, .int .i64 ino], .pointer (some ⟨q, 0, none⟩)] W fun e w' => e = .returned (.bool (eqN nm t)) ∧ Below W.heap.size W w' := by
  have h2 : (W.alloc (.cells #[.string nm, .int .i64 ino] 27)).cell? ⟨q, 0, none⟩ = some (.string t) := ((Mod.refl nob W).alloc _).cell hq (fun h => h)
  clear hq
  go_enter Try.func51, Try.ntmps51
  go_wp2
  go_ret
  exact ⟨rfl, (Below.refl _ _).alloc (Nat.le_refl _) _⟩

/-- The first of a name, from one on; -1: there is none. -/
def hitE (l : List En) (t : ByteArray) : Nat → Nat → Int
  | _, 0 => -1
  | k, f + 1 => if eqN (l.getD k default).name t then (k : Int) else hitE l t (k + 1) f

set_option maxRecDepth 20000 in
set_option maxHeartbeats 1000000 in
theorem index9 {w : World} {lv : Value} {l : List En} {t : ByteArray} {q : Nat} (hl : HoldsE w lv l) (hb : l.length ≤ 1000) (hq : w.cell? ⟨q, 0, none⟩ = some (.string t)) :
    Calls Try.prog 84 #[lv, .func (.func 51) #[] #[.pointer (some ⟨q, 0, none⟩)]] w fun e w' => e = .returned (.int .i64 (hitE l t 0 l.length)) ∧ Below w.heap.size w w' := by
  have HL := Lib.hid hl
  have HQ : Hid (∀ wr, Below w.heap.size w wr → wr.cell? ⟨q, 0, none⟩ = some (.string t)) := fun wr h => (mod_of_below h).cell hq (fun h => h)
  obtain ⟨ao, c, rfl, hlc, hcm, -⟩ := hl
  obtain ⟨n, hn⟩ : ∃ n, n = l.length := ⟨_, rfl⟩
  rw [← hn] at HL hb hlc ⊢
  have HN := Lib.hid hn
  have hcell : Hid (∀ wr, Below w.heap.size w wr → ∀ j, j < n → ∃ g o, ao = some ⟨g, o, none⟩ ∧ wr.cell? ⟨g, o + j * 2, none⟩ = some (.string (l.getD j default).name) ∧ wr.cell? ⟨g, o + j * 2 + 1, none⟩ = some (.int .i64 (l.getD j default).ino)) := by
    intro wr hm j hj
    obtain ⟨ao', c', e, -, -, -, h3⟩ := HL.out.below hm
    rw [← hn] at e h3
    simp only [Value.slice.injEq] at e
    obtain ⟨rfl, -, rfl⟩ := e
    exact h3 j hj
  unfold maxLen at hcm
  clear hn hq
  go_enter Try.func84, Try.ntmps84
  go_wp2
  go_loopg [8] n (fun gk i wr => ∃ (k : Nat), k + gk = n ∧ i = .int .i64 k ∧ Hid (hitE l t 0 n = hitE l t k gk) ∧ Hid (Below w.heap.size w wr))
  case atStart => exact ⟨0, by omega, rfl, rfl, Below.refl _ _⟩
  case round =>
    obtain ⟨k, hk, rfl, HE, HB⟩ := hrel
    by_cases hlt : k < n
    · obtain ⟨g, o, rfl, e1, e2⟩ := hcell.out wr HB.out k hlt
      obtain ⟨gm, hgm⟩ : ∃ gm, gk = gm + 1 := ⟨gk - 1, by omega⟩
      have hE := HE.out
      rw [hgm] at hE
      simp only [hitE] at hE
      generalize l.getD k default = x at e1 e2 hE
      obtain ⟨nm, ino⟩ := x
      simp only at e1 e2 hE
      have HG1 := fun W h => Lib.hid (without1_any nm ino t q (W := W) h)
      have HQ1 := Lib.hid (HQ.out wr HB.out)
      cases hp : eqN nm t with
      | false =>
        rw [hp] at hE HG1
        have HE2 := Lib.hid hE
        clear hE hp
        go_wp2_with fail
        refine (HG1 _ HQ1.out).out.mono ?_
        rintro e w2 ⟨rfl, hb2⟩
        have HB2 : Hid (Below w.heap.size w w2) := HB.out.trans (hb2.mono HB.out.size)
        clear hb2
        go_wp2
        go_roundg gm
        case measure => omega
        case rel => exact ⟨k + 1, by omega, by go_num, HE2.out, HB2.out⟩
      | true =>
        rw [hp] at hE HG1
        have HE2 := Lib.hid hE
        clear hE hp
        go_wp2_with fail
        refine (HG1 _ HQ1.out).out.mono ?_
        rintro e w2 ⟨rfl, hb2⟩
        have HB2 : Hid (Below w.heap.size w w2) := HB.out.trans (hb2.mono HB.out.size)
        clear hb2
        go_wp2
        go_ret
        rw [HE2.out]
        exact ⟨rfl, HB2.out⟩
    · obtain rfl : k = n := by omega
      obtain rfl : gk = 0 := by omega
      go_wp2
      go_ret
      rw [HE.out]
      exact ⟨rfl, HB.out⟩

theorem hitE_spec (l : List En) (t : ByteArray) : ∀ f k, k + f = l.length → (∀ j, j < k → eqN (l.getD j default).name t = false) →
    (hitE l t k f = -1 ∧ ∀ j, j < l.length → eqN (l.getD j default).name t = false) ∨ ∃ i, i < l.length ∧ hitE l t k f = (i : Int) ∧ eqN (l.getD i default).name t = true ∧ ∀ j, j < i → eqN (l.getD j default).name t = false
  | 0, k, hk, h => .inl ⟨rfl, fun j hj => h j (by omega)⟩
  | f + 1, k, hk, h => by
    by_cases hp : eqN (l.getD k default).name t = true
    · exact .inr ⟨k, by omega, if_pos hp, hp, h⟩
    · have e : hitE l t k (f + 1) = hitE l t (k + 1) f := if_neg hp
      rw [e]
      refine hitE_spec l t f (k + 1) (by omega) (fun j hj => ?_)
      by_cases hjk : j = k
      · subst hjk; simpa using hp
      · exact h j (by omega)

/-- The entries of other names. -/
def dropE (l : List En) (t : ByteArray) : List En := l.filter fun x => !eqN x.name t

section
variable {P : Program}
theorem run_clear_k (w : World) (t e ty : TypeId) (z : Value) (size : Nat) (ht : P.underlying t = some (.slice e)) (hv : ∀ w, (zeroValue e).run P w = .ok z w) (hz : z.cells.size = size) (b o n c : Nat) (hn : 0 < n)
    (pre mid post : List Value) (tt : TypeId) (hb : w.heap[b]? = some (.cells (pre ++ (mid ++ post)).toArray tt (0, 0))) (hp : pre.length = o) (hl : mid.length = n * size) (h1 : ∀ u ∈ (Builtin.zeroCells z.cells n).toList, u.oneCell' = true) :
    (Builtin.clear_ #[t] ty #[.slice (some ⟨b, o, none⟩) n c]).run P w = .ok (.tuple #[]) (w.setCells b o (Builtin.zeroCells z.cells n).toList) := by
  have hzl : (Builtin.zeroCells z.cells n).toList.length = n * size := by rw [Array.length_toList, zeroCells_len, hz]
  have hst := run_storeCells_cells (P := P) b o (Builtin.zeroCells z.cells n).toList 0 w (fun j hj => by
      rw [Nat.add_zero, cell_of_row _ _ _ _ _ _ hb, Array.getElem?_eq_getElem (show o + j < (pre ++ (mid ++ post)).toArray.size by rw [List.size_toArray, List.length_append, List.length_append]; omega)]
      rfl) (fun j hj => by rw [Nat.add_zero]; exact frozen_of_row _ _ _ _ _ hb) h1
  simp only [Nat.add_zero] at hst
  obtain ⟨m, rfl⟩ : ∃ m, n = m + 1 := ⟨n - 1, by omega⟩
  simp [Builtin.clear_, run_underlying ht, hv, hst]
theorem wpList_clear_r {w : World} {ops : Array Oper} {rest : List Oper} {o : Oper} {a : Act} {Q : Exit → Act → World → Prop} (hgd : o.guard = none) (d : Operand) (t : TypeId)
    (ho : o.op = .call { callee := .builtin .clear, args := #[d], argTypes := #[t] }) (v : Value) (hd : a.eval d = v) {v' : Value} {w' : World}
    (hr : (Builtin.clear_ #[t] o.type #[v]).run P w = .ok v' w') (h : wpList P ops Q rest (a.put o.dst v') w') : wpList P ops Q (o :: rest) a w :=
  wpList_plain hgd fun _ hK => by
    unfold Oper.wp execOp
    simp only [ho, resolve, invoke, builtin, Sem.run_bind, Sem.run_pure, Result.andThen_ok, List.map_toArray, List.map_cons, List.map_nil, hd, hr]
    exact hK _ _ h
end

theorem dropE_none {l : List En} {t : ByteArray} (h : ∀ j, j < l.length → eqN (l.getD j default).name t = false) : dropE l t = l := by
  unfold dropE
  rw [List.filter_eq_self]
  intro x hx
  obtain ⟨i, hi, rfl⟩ := List.getElem_of_mem hx
  have := h i hi
  rw [List.getD_eq_getElem?_getD, List.getElem?_eq_getElem hi] at this
  simpa using this
theorem getD_take {l : List En} {k j : Nat} (h : j < k) : (l.take k).getD j default = l.getD j default := by
  rw [List.getD_eq_getElem?_getD, List.getElem?_take, if_pos h, List.getD_eq_getElem?_getD]
theorem take_succ_getD {l : List En} {k : Nat} (h : k < l.length) : l.take (k + 1) = l.take k ++ [l.getD k default] := by
  rw [List.take_succ_eq_append_getElem h, List.getD_eq_getElem?_getD, List.getElem?_eq_getElem h]
  rfl
theorem drop_getD {l : List En} {k : Nat} (h : k < l.length) : l.drop k = l.getD k default :: l.drop (k + 1) := by
  rw [← List.getElem_cons_drop h, List.getD_eq_getElem?_getD, List.getElem?_eq_getElem h]
  rfl
theorem dropE_succ {l : List En} {t : ByteArray} {k : Nat} (h : k < l.length) : dropE (l.take (k + 1)) t = if eqN (l.getD k default).name t = true then dropE (l.take k) t else dropE (l.take k) t ++ [l.getD k default] := by
  unfold dropE
  rw [take_succ_getD h, List.filter_append]
  generalize l.getD k default = x
  cases hb : eqN x.name t with
  | true => rw [if_pos rfl, List.filter_cons, hb]; simp
  | false => rw [if_neg (by decide), List.filter_cons, hb]; simp

set_option maxRecDepth 20000 in
set_option maxHeartbeats 4000000 in
theorem delete9 {w : World} {base : Nat} {v : Value} {l : List En} {t : ByteArray} {q : Nat} (hl : l.length ≤ 1000) (hown : w.ownsRow base 27 2 v l.length (enC l)) (hbase : base ≤ w.heap.size)
    (hq : w.cell? ⟨q, 0, none⟩ = some (.string t)) (hne : v.ownBlock ≠ some q) :
    Calls Try.prog 50 #[v, .func (.func 51) #[] #[.pointer (some ⟨q, 0, none⟩)]] w fun e w' => ∃ v', e = .returned v' ∧ w'.ownsRow base 27 2 v' (dropE l t).length (enC (dropE l t)) ∧ Mod (fun p => v.ownBlock = some p) w w' := by
  obtain ⟨i1, hi1, hy0, hy1, hy2⟩ := info_parts Try.infoEntry9
  have HIX := Lib.hid (index9 (holdsE_of_own rfl hown) hl hq)
  obtain ⟨L, hL⟩ : ∃ L, L = l.length := ⟨_, rfl⟩
  have HL := Lib.hid hL
  have hsp := hitE_spec l t L 0 (by omega) (fun j hj => by omega)
  rw [← hL] at hl hown HIX hsp
  have HO := Lib.hid hown
  rcases hsp with ⟨e1, hno⟩ | ⟨i, hiL, e1, hyes, hno⟩
  · have hd : dropE l t = l := dropE_none (by rw [← hL]; exact hno)
    rw [hd, ← hL]
    rw [e1] at HIX
    rcases hown.2 with ⟨rfl, h0⟩ | ⟨b, c, cur, rfl, hbg, hg, hnc, hcm, hcs, htk⟩
    · clear hL hd hno hq hne
      subst h0
      go_enter Try.func50, Try.ntmps50
      go_wp2_with fail
      refine HIX.out.mono ?_
      rintro e w1 ⟨rfl, hb1⟩
      have HB1 := Lib.hid hb1
      clear hb1
      go_wp2
      go_ret
      exact ⟨_, rfl, (mod_of_below HB1.out).own HO.out (fun _ _ h => h), (mod_of_below HB1.out).mono (fun _ _ h => h.elim)⟩
    · clear hL hd hno hq hne hown hg htk
      go_enter Try.func50, Try.ntmps50
      go_wp2_with fail
      refine HIX.out.mono ?_
      rintro e w1 ⟨rfl, hb1⟩
      have HB1 := Lib.hid hb1
      clear hb1
      go_wp2
      go_ret
      exact ⟨_, rfl, (mod_of_below HB1.out).own HO.out (fun _ _ h => h), (mod_of_below HB1.out).mono (fun _ _ h => h.elim)⟩
  · rcases hown.2 with ⟨rfl, h0⟩ | ⟨b, c, cur, rfl, hbg, hg, hnc, hcm, hcs, htk⟩
    · omega
    · obtain ⟨S, hS⟩ : ∃ S, S = cur.toList.drop (L * 2) := ⟨_, rfl⟩
      have hcur : cur = (enC l ++ S).toArray := by rw [← htk, hS, List.take_append_drop, Array.toArray_toList]
      have hSl : S.length = (c - L) * 2 := by rw [hS, List.length_drop, Array.length_toList, hcs, ← Nat.sub_mul]
      rw [hcur] at hg
      have hbq : b ≠ q := fun e => hne (by subst e; rfl)
      have HG := Lib.hid hg
      rw [e1] at HIX
      have HQ := Lib.hid hq
      have hdt : dropE (l.take i) t = l.take i := dropE_none (fun j hj => by
        rw [List.length_take] at hj
        rw [getD_take (by omega)]
        exact hno j (by omega))
      have hdi : dropE (l.take (i + 1)) t = l.take i := by rw [dropE_succ (by omega), if_pos hyes, hdt]
      have HDI := Lib.hid hdi
      have HNO := Lib.hid hno
      have HYES := Lib.hid hyes
      have hne1 : ¬ ((i : Int) = -1) := by omega
      have hne2 : ((i : Int) == -1) = false := beq_eq_false_iff_ne.2 hne1
      clear hS hcur hg hq hdt hdi hno hyes hL htk hown hcs hne HO
      go_enter Try.func50, Try.ntmps50
      go_wp2_with fail
      refine HIX.out.mono ?_
      rintro e w1 ⟨rfl, hb1⟩
      have HM1 : Hid (Mod (fun p => b = p) w w1) := (mod_of_below hb1).mono (fun _ _ h => h.elim)
      have HG1 : Hid (w1.heap[b]? = some (.cells (enC l ++ S).toArray 27 (0, 0))) := (mod_of_below hb1).heap HG.out (fun h => h)
      clear hb1 HIX
      go_wp2_with fail
      go_loopg [5, 6] L (fun gk s5 s6 wr => ∃ (j kn : Nat) (K X : List En), (L ≤ j + gk ∧ j ≤ L) ∧ s6 = .int .i64 j ∧ s5 = .int .i64 kn ∧ kn < j ∧ Hid (K.length = kn) ∧ Hid (X.length = j - kn) ∧ Hid (K = dropE (l.take j) t) ∧ Hid (wr.heap[b]? = some (.cells (enC (K ++ X ++ l.drop j) ++ S).toArray 27 (0, 0))) ∧ Hid (Mod (fun p => b = p) w wr))
      case atStart =>
        refine ⟨i + 1, i, l.take i, [l.getD i default], ⟨by omega, by omega⟩, by go_num, rfl, by omega, ?_, ?_, HDI.out.symm, ?_, HM1.out⟩
        · unfold Hid; rw [List.length_take, ← HL.out]; omega
        · unfold Hid; simp
        · unfold Hid
          rw [← take_succ_getD (by rw [← HL.out]; exact hiL), List.take_append_drop]
          exact HG1.out
      case round =>
        obtain ⟨j, kn, K, X, ⟨hj, hjL⟩, rfl, rfl, hkj, HKL, HXL, HK, HR, HM⟩ := hrel
        by_cases hlt : j < L
        · obtain ⟨R, hR⟩ : ∃ R, R = K ++ X ++ l.drop j := ⟨_, rfl⟩
          have hRl : R.length = L := by rw [hR, List.length_append, List.length_append, List.length_drop, HKL.out, HXL.out, ← HL.out]; omega
          have hRj : R.getD j default = l.getD j default := by
            rw [hR, List.getD_eq_getElem?_getD, List.getElem?_append_right (by rw [List.length_append, HKL.out, HXL.out]; omega), List.getElem?_drop, List.length_append, HKL.out, HXL.out, List.getD_eq_getElem?_getD]
            congr 2
            omega
          obtain ⟨c1, c2⟩ := enC_get R j (by omega)
          rw [hRj] at c1 c2
          have hr := HR.out
          rw [← hR] at hr
          obtain ⟨x, hx⟩ : ∃ x, x = l.getD j default := ⟨_, rfl⟩
          rw [← hx] at c1 c2
          have hRe : (enC R).length = L * 2 := by rw [enC_len, hRl]
          have e1 : wr.cell? ⟨b, j * 2, none⟩ = some (.string x.name) := by
            rw [cell_of_row _ _ _ _ _ _ hr, List.getElem?_toArray, List.getElem?_append_left (by omega)]; exact c1
          have e2 : wr.cell? ⟨b, j * 2 + 1, none⟩ = some (.int .i64 x.ino) := by
            rw [cell_of_row _ _ _ _ _ _ hr, List.getElem?_toArray, List.getElem?_append_left (by omega)]; exact c2
          have HX := Lib.hid hx
          have HRE := Lib.hid hR
          obtain ⟨nm, ino⟩ := x
          simp only at e1 e2
          clear hR hRl hRj c1 c2 hr hx hRe
          go_upto_region 8 with (fail)
          have HM2 : Hid (Mod (fun p => b = p) w (wr.alloc (.cells #[.string nm, .int .i64 ino] 27))) := HM.out.alloc _
          have hbw : b < wr.heap.size := (Array.getElem?_eq_some_iff.1 HR.out).1
          have HR2 : Hid ((wr.alloc (.cells #[.string nm, .int .i64 ino] 27)).heap[b]? = some (.cells (enC (K ++ X ++ l.drop j) ++ S).toArray 27 (0, 0))) := ((Mod.refl nob wr).alloc _).heap HR.out (fun h => h)
          have HBX : Hid ((wr.alloc (.cells #[.string nm, .int .i64 ino] 27)).heap[wr.heap.size]? = some (.cells #[.string nm, .int .i64 ino] 27 (0, 0))) := heap_alloc_new _ _
          obtain ⟨B, hB⟩ : ∃ B, B = wr.heap.size := ⟨_, rfl⟩
          rw [← hB] at HBX hbw ⊢
          have hBb : b ≠ B := by omega
          generalize wr.alloc (.cells #[.string nm, .int .i64 ino] 27) = w2 at *
          clear hB e1 e2 HR HM
          have x0 : w2.cell? ⟨B, 0, none⟩ = some (.string nm) := by rw [cell_of_row _ _ _ _ _ _ HBX.out]; rfl
          have x1 : w2.cell? ⟨B, 1, none⟩ = some (.int .i64 ino) := by rw [cell_of_row _ _ _ _ _ _ HBX.out]; rfl
          have hq2 : w2.cell? ⟨q, 0, none⟩ = some (.string t) := HM2.out.cell HQ.out (fun e => hbq e)
          have HW := Lib.hid (without1_any nm ino t q hq2)
          clear hq2
          obtain ⟨dl, hdl⟩ : ∃ dl, dl = eqN nm t := ⟨_, rfl⟩
          rw [← hdl] at HW
          have HDL := Lib.hid hdl
          have hds := dropE_succ (l := l) (t := t) (k := j) (by rw [← HL.out]; exact hlt)
          rw [← HX.out] at hds
          dsimp only at hds
          rw [← hdl, ← HK.out] at hds
          have HDS := Lib.hid hds
          have hdj := drop_getD (l := l) (k := j) (by rw [← HL.out]; exact hlt)
          rw [← HX.out] at hdj
          have HDJ := Lib.hid hdj
          clear hdl hds hdj
          cases dl with
          | true =>
            go_wp2_with (go_at_call 51; (with_reducible refine HW.out.mono ?_); (rintro e w3 ⟨rfl, hb3⟩))
            have HR3 : Hid (w3.heap[b]? = some (.cells (enC (K ++ (X ++ [⟨nm, ino⟩]) ++ l.drop (j + 1)) ++ S).toArray 27 (0, 0))) := by
              have h := (mod_of_below hb3).heap HR2.out (fun h => h)
              rw [HDJ.out] at h
              unfold Hid
              rw [h]
              congr 4
              simp only [List.append_assoc, List.cons_append, List.nil_append]
            have HM3 : Hid (Mod (fun p => b = p) w w3) := HM2.out.step (mod_of_below hb3) (fun _ h => h.elim)
            clear hb3
            go_roundg (gk - 1)
            case measure => omega
            case rel =>
              refine ⟨j + 1, kn, K, X ++ [(⟨nm, ino⟩ : En)], ⟨by omega, by omega⟩, by go_num, rfl, by omega, HKL.out, ?_, ?_, HR3.out, HM3.out⟩
              · unfold Hid; rw [List.length_append, HXL.out]; simp; omega
              · unfold Hid; rw [HDS.out]; rfl
          | false =>
            obtain ⟨x0, X1, hX⟩ : ∃ x0 X1, X = x0 :: X1 := by
              cases X with
              | nil => exact absurd HXL.out (by simp; omega)
              | cons a r => exact ⟨a, r, rfl⟩
            have hX1 : X1.length + 1 = j - kn := by have := HXL.out; rw [hX] at this; simpa using this
            have hkL : (enC K).length = kn * 2 := by rw [enC_len, HKL.out]
            go_upto_region 9 with (go_at_call 51; (with_reducible refine HW.out.mono ?_); (rintro e w3 ⟨rfl, hb3⟩))
            have hr3 : w3.heap[b]? = some (.cells (enC K ++ ([Value.string x0.name, .int .i64 x0.ino] ++ (enC (X1 ++ l.drop j) ++ S))).toArray 27 (0, 0)) := by
              have h := (mod_of_below hb3).heap HR2.out (fun h => h)
              rw [h, hX]
              congr 3
              rw [List.append_assoc, enC_append, List.append_assoc]
              rfl
            have hbx := (mod_of_below hb3).heap HBX.out (fun h => h)
            have x0' : w3.cell? ⟨B, 0, none⟩ = some (.string nm) := by rw [cell_of_row _ _ _ _ _ _ hbx]; rfl
            have x1' : w3.cell? ⟨B, 1, none⟩ = some (.int .i64 ino) := by rw [cell_of_row _ _ _ _ _ _ hbx]; rfl
            have HTH : Hid (w3.there b (kn * 2) (#[Value.string nm, .int .i64 ino]).size) := by
              intro jj hjj
              have hjj2 : jj < 2 := hjj
              refine ⟨?_, frozen_of_row _ _ _ _ _ hr3⟩
              rw [cell_of_row _ _ _ _ _ _ hr3, Array.getElem?_eq_getElem (show kn * 2 + jj < _ by rw [List.size_toArray, List.length_append, List.length_append, hkL]; simp only [List.length_cons, List.length_nil]; omega)]
              rfl
            have HISZ : Hid ((Try.prog.info? 27).map (·.size) = some (#[Value.string nm, .int .i64 ino]).size) := by unfold Hid; rw [hi1]; simp [hy1]
            have HONE : Hid ((#[Value.string nm, .int .i64 ino]).all (·.oneCell') = true) := all_oneCell_toArray (cs := [Value.string nm, .int .i64 ino]) (fun u hu => by simp only [List.mem_cons, List.not_mem_nil, or_false] at hu; rcases hu with rfl | rfl <;> rfl)
            have hknL : (kn : Int) < (L : Int) := by omega
            have HM3 : Hid (Mod (fun p => b = p) w w3) := HM2.out.step (mod_of_below hb3) (fun _ h => h.elim)
            have hg4 := heap_setCells_mid b 27 [Value.string nm, .int .i64 ino] (enC K) [Value.string x0.name, .int .i64 x0.ino] (enC (X1 ++ l.drop j) ++ S) w3 hr3 rfl
            rw [hkL] at hg4
            have HR4 : Hid ((w3.setCells b (kn * 2) [.string nm, .int .i64 ino]).heap[b]? = some (.cells (enC (K ++ [(⟨nm, ino⟩ : En)] ++ (X1 ++ [(⟨nm, ino⟩ : En)]) ++ l.drop (j + 1)) ++ S).toArray 27 (0, 0))) := by
              unfold Hid
              rw [hg4, HDJ.out]
              congr 3
              simp only [enC_append, List.append_assoc, List.cons_append, List.nil_append]
              have : ∀ r : List En, enC ((⟨nm, ino⟩ : En) :: r) = .string nm :: .int .i64 ino :: enC r := fun r => rfl
              simp only [this, enC_append, List.cons_append, List.append_assoc, List.nil_append]
            have HM4 : Hid (Mod (fun p => b = p) w (w3.setCells b (kn * 2) [.string nm, .int .i64 ino])) := Mod.setCells (D := fun p => b = p) b (.inl rfl) _ _ _ HM3.out
            have HX1 := Lib.hid hX1
            clear hr3 hbx hb3 hg4 hX hX1 hkL x0 x1
            go_upto_region 10 with (with_reducible refine wpList_store_mid (op := ⟨none, _, _, _, _, _⟩) rfl 27 _ _ rfl b (kn * 2) (#[Value.string nm, .int .i64 ino]) rfl rfl HTH.out HISZ.out HONE.out ?_)
            try simp only [Act.put]
            generalize w3.setCells b (kn * 2) [.string nm, .int .i64 ino] = w4 at *
            clear HTH x0' x1'
            go_wp2_with fail
            go_roundg (gk - 1)
            case measure => omega
            case rel =>
              refine ⟨j + 1, kn + 1, K ++ [(⟨nm, ino⟩ : En)], X1 ++ [(⟨nm, ino⟩ : En)], ⟨by omega, by omega⟩, by go_num, by go_num, by omega, ?_, ?_, ?_, HR4.out, HM4.out⟩
              · unfold Hid; rw [List.length_append, HKL.out]; rfl
              · unfold Hid; rw [List.length_append]; have := HX1.out; simp; omega
              · unfold Hid; rw [HDS.out]; rfl
        · obtain rfl : j = L := by omega
          have hnlt : ¬ (j : Int) < (j : Int) := by omega
          have hr : wr.heap[b]? = some (.cells (enC K ++ (enC X ++ S)).toArray 27 (0, 0)) := by
            have h := HR.out
            rw [HL.out, List.drop_length, List.append_nil, enC_append, List.append_assoc] at h
            exact h
          have hkL : (enC K).length = kn * 2 := by rw [enC_len, HKL.out]
          have hxL : (enC X).length = (j - kn) * 2 := by rw [enC_len, HXL.out]
          obtain ⟨z, hz⟩ : ∃ z : Value, z = .agg #[.string ⟨#[]⟩, .int .i64 0] := ⟨_, rfl⟩
          have hzc : z.cells.size = 2 := by rw [hz]; rfl
          have hzv : ∀ w, (zeroValue 27).run Try.prog w = .ok z w := fun w => by rw [hz]; simp [zeroValue, typeInfo, hi1, hy0]
          have hz1 : ∀ u ∈ (Builtin.zeroCells z.cells (j - kn)).toList, u.oneCell' = true := by
            intro u hu
            unfold Builtin.zeroCells at hu
            simp only [Array.toList_map, List.mem_map, Array.toList_range, List.mem_range] at hu
            obtain ⟨a, -, rfl⟩ := hu
            rw [hz]
            have h2 : (Value.agg #[Value.string ⟨#[]⟩, .int .i64 0]).cells.size = 2 := rfl
            rw [h2]
            rcases Nat.mod_two_eq_zero_or_one a with h | h <;> rw [h] <;> rfl
          have HRC : Hid (∀ ty, (Builtin.clear_ #[23] ty #[.slice (some ⟨b, kn * 2, none⟩) (j - kn) (c - kn)]).run Try.prog wr = .ok (.tuple #[]) (wr.setCells b (kn * 2) (Builtin.zeroCells z.cells (j - kn)).toList)) := fun ty => (run_clear_k (P := Try.prog) wr 23 27 ty z 2 Try.underlying23 hzv hzc b (kn * 2) (j - kn) (c - kn) (by omega) (enC K) (enC X) S 27 hr hkL hxL hz1)
          obtain ⟨Z, hZ⟩ : ∃ Z, Z = (Builtin.zeroCells z.cells (j - kn)).toList := ⟨_, rfl⟩
          have hZl : Z.length = (j - kn) * 2 := by rw [hZ, Array.length_toList, zeroCells_len, hzc]
          rw [← hZ] at HRC
          have hg := heap_setCells_mid b 27 Z (enC K) (enC X) S wr hr (by rw [hxL, hZl])
          rw [hkL] at hg
          have HG2 := Lib.hid hg
          have HM2 : Hid (Mod (fun p => b = p) w (wr.setCells b (kn * 2) Z)) := Mod.setCells (D := fun p => b = p) b (.inl rfl) _ _ _ HM.out
          have hck : ¬ (c = kn) := by omega
          have hkj1 : (kn : Int) ≤ (j : Int) := by omega
          have hKE : dropE l t = K := by rw [HK.out, HL.out, List.take_length]
          have HKE := Lib.hid hKE
          have hKl : K.length = kn := HKL.out
          clear hr hxL hz hzc hzv hz1 hZ hg hKE HR HK
          go_wp2_with (with_reducible refine wpList_clear_r (o := ⟨none, _, _, _, _, _⟩) rfl (.tmp 38) 23 rfl (.slice (some ⟨b, kn * 2, none⟩) (j - kn) (c - kn)) rfl (HRC.out _) ?_)
          go_ret
          refine ⟨_, rfl, ?_, HM2.out.mono (fun q _ e => by rw [← e]; rfl)⟩
          rw [HKE.out, hKl]
          refine ⟨by rw [enC_len, hKl], .inr ⟨b, c, _, rfl, hbg, HG2.out, by omega, hcm, ?_, ?_⟩⟩
          · rw [List.size_toArray, List.length_append, List.length_append, hkL, hZl, hSl]; omega
          · show ((enC K ++ (Z ++ S)).take (kn * 2)) = _
            rw [← hkL, List.take_left]
end Go.Proofs.Ytlopdbhjdijlmaa
