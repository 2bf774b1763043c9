/-
  tree.search and tree.Find: contracts. No condition but the bounds that are typed.
  slices.Clone and slices.Insert at directories' entries: contracts. No condition but the bounds that are typed.
  slices.IndexFunc and slices.DeleteFunc at directories' entries, by a name: contracts. No condition but the bounds that are typed.
-/
import Derived.Test.YtlopdbhjdijlmaaQInsM
import Derived.Lib.Bytealg
import Derived.Laws.Externs
import Derived.Test.YtlopdbhjdijlmaaQRead1
import Derived.Lib.Overlaps
import Derived.Lib.AppendZerosOnto
import Derived.Lib.SliceRun
import Derived.Deep.RegionLaw

namespace Go.Proofs.Ytlopdbhjdijlmaa
open Go.ChangeShapes Go.WideShapes Go.ChangeAt Go.RowKit
set_option linter.unusedSimpArgs false
set_option linter.unusedVariables false

theorem cmpB_spec : ∀ a b : List UInt8, (Lib.compareBytes a b < 0 ↔ Op.bytesLess a b = true) ∧ (Lib.compareBytes a b = 0 ↔ a = b) ∧ -1 ≤ Lib.compareBytes a b ∧ Lib.compareBytes a b ≤ 1
  | [], [] => by simp [Lib.compareBytes, Op.bytesLess]
  | [], _ :: _ => by simp [Lib.compareBytes, Op.bytesLess]
  | _ :: _, [] => by simp [Lib.compareBytes, Op.bytesLess]
  | a :: x, b :: y => by
    obtain ⟨h1, h2, h3, h4⟩ := cmpB_spec x y
    unfold Lib.compareBytes
    rw [Op.bytesLess]
    by_cases hab : a < b
    · have hne : a ≠ b := fun e => by subst e; exact absurd hab (UInt8.lt_irrefl a)
      simp [hab, hne]
    · by_cases hba : b < a
      · have hne : a ≠ b := fun e => by subst e; exact absurd hba (UInt8.lt_irrefl a)
        simp [hab, hba, hne]
      · have he : a = b := UInt8.le_antisymm (UInt8.not_lt.1 hba) (UInt8.not_lt.1 hab)
        subst he
        simp [hab, h1, h2, h3, h4]

/-- How a name stands to another one: less than 0, 0, more. -/
def cmpN (a b : ByteArray) : Int := Lib.compareBytes a.data.toList b.data.toList
theorem cmpN_rng (a b : ByteArray) : -1 ≤ cmpN a b ∧ cmpN a b ≤ 1 := (cmpB_spec _ _).2.2
theorem cmpN_eq (a b : ByteArray) : cmpN a b = 0 ↔ a = b := by
  unfold cmpN
  rw [(cmpB_spec _ _).2.1]
  constructor
  · intro h
    cases a; cases b
    simp at h
    simp [h]
  · intro h; rw [h]
theorem data_toL (a : ByteArray) : a.toList = a.data.toList := ByteArray.toList_eq a
theorem cmpN_lt (y : En) (t : ByteArray) (i : Int) : cmpN y.name t < 0 ↔ ltE y ⟨t, i⟩ = true := by
  unfold cmpN ltE
  rw [(cmpB_spec _ _).1, data_toL, data_toL]

/-- Entries whose names ascend. -/
def SortE (l : List En) : Prop := ∀ i j, i < j → j < l.length → ltE (l.getD i default) (l.getD j default) = true
/-- Where a name is, or would be. -/
def lowE (l : List En) (t : ByteArray) : Nat := insK l ⟨t, 0⟩
def hasE (l : List En) (t : ByteArray) : Bool := decide (lowE l t < l.length) && decide (cmpN (l.getD (lowE l t) default).name t = 0)

set_option maxRecDepth 100000 in
theorem compare_native (a b : ByteArray) (w : World) : Calls Try.prog 108 #[.string a, .string b] w fun e w' => e = .returned (.int .i64 (cmpN a b)) ∧ w = w' := by
  go_enter Try.func108, Try.ntmps108
  go_wp2
  rw [run_callFunc_extern Try.func128 (by kernel_rfl) (by kernel_rfl) (by kernel_rfl) (e := Extern.BytealgCompare.compare) (by kernel_rfl), Lib.run_compareString]
  simp only [Result.andThen]
  rw [Oper.upon_value]
  go_wp2
  go_ret
  exact ⟨rfl, rfl⟩
theorem compare_any (a b : ByteArray) (w : World) : Calls Try.prog 81 #[.string a, .string b] w fun e w' => e = .returned (.int .i64 (cmpN a b)) ∧ w = w' := by
  have HC := Lib.hid (compare_native a b w)
  generalize cmpN a b = c at *
  go_enter Try.func81, Try.ntmps81
  go_wp2_with fail
  refine HC.out.mono ?_
  rintro e w' ⟨rfl, rfl⟩
  go_wp2
  go_ret
  exact ⟨rfl, rfl⟩
theorem search1_any (nm : ByteArray) (ino : Int) (t : ByteArray) (w : World) : Calls Try.prog 80 #[.agg #[.string nm, .int .i64 ino], .string t] w fun e w' => e = .returned (.int .i64 (cmpN nm t)) ∧ Below w.heap.size w w' := by
  have HC := fun w => Lib.hid (compare_any nm t w)
  generalize cmpN nm t = c at *
  go_enter Try.func80, Try.ntmps80
  go_wp2_with fail
  refine (HC _).out.mono ?_
  rintro e w' ⟨rfl, rfl⟩
  go_wp2
  go_ret
  exact ⟨rfl, (Below.refl _ _).alloc (Nat.le_refl _) _⟩

theorem low_eq {l : List En} {t : ByteArray} {k : Nat} (hk : k ≤ l.length) (h1 : ∀ j, j < k → cmpN (l.getD j default).name t < 0) (h2 : ∀ j, k ≤ j → j < l.length → ¬ cmpN (l.getD j default).name t < 0) : lowE l t = k :=
  insK_eq _ _ _ hk (fun j hj => (cmpN_lt _ _ _).1 (h1 j hj)) (fun hk2 => by
    have := h2 k (Nat.le_refl _) hk2
    rw [cmpN_lt _ _ 0] at this
    simpa using this)
theorem sort_cmp {l : List En} (h : SortE l) {i j : Nat} (hij : i ≤ j) (hj : j < l.length) (t : ByteArray) (hc : cmpN (l.getD j default).name t < 0) : cmpN (l.getD i default).name t < 0 := by
  rcases Nat.lt_or_ge i j with h1 | h1
  · rw [cmpN_lt _ _ 0] at hc ⊢
    exact blq_trans (h i j h1 hj) hc
  · obtain rfl : i = j := by omega
    exact hc

set_option maxRecDepth 20000 in
set_option maxHeartbeats 2000000 in
theorem bsearch_any {w : World} {lv : Value} {l : List En} (t : ByteArray) (hl : HoldsE w lv l) (hb : l.length ≤ 1000000) (hs : SortE l) :
    Calls Try.prog 79 #[lv, .string t, .func (.func 80) #[] #[]] w fun e w' => e = .returned (.tuple #[.int .i64 (lowE l t : Nat), .bool (hasE l t)]) ∧ Below w.heap.size w w' := by
  have HL := Lib.hid hl
  have HS := Lib.hid hs
  obtain ⟨ao, c, rfl, hlc, hcm, -⟩ := hl
  obtain ⟨n, hn⟩ : ∃ n, n = l.length := ⟨_, rfl⟩
  rw [← hn] at HL hlc hb ⊢
  have HN := Lib.hid hn
  have hcell : Hid (∀ wr, Below w.heap.size w wr → ∀ j, j < n → ∃ g o, ao = some ⟨g, o, none⟩ ∧ wr.cell? ⟨g, o + j * 2, none⟩ = some (.string (l.getD j default).name) ∧ wr.cell? ⟨g, o + j * 2 + 1, none⟩ = some (.int .i64 (l.getD j default).ino)) := by
    intro wr hm j hj
    obtain ⟨ao', c', e, -, -, -, h3⟩ := HL.out.below hm
    rw [← hn] at e h3
    simp only [Value.slice.injEq] at e
    obtain ⟨rfl, -, rfl⟩ := e
    exact h3 j hj
  unfold maxLen at hcm
  obtain ⟨K, hK⟩ : ∃ K, K = lowE l t := ⟨_, rfl⟩
  obtain ⟨F, hF⟩ : ∃ F, F = hasE l t := ⟨_, rfl⟩
  have hF2 : F = (decide (K < n) && decide (cmpN (l.getD K default).name t = 0)) := by rw [hF, hK, hn]; rfl
  rw [← hK, ← hF]
  have HK := Lib.hid hK
  have HF := Lib.hid hF2
  clear hn hK hF hF2 hs
  go_enter Try.func79, Try.ntmps79
  go_wp2_with fail
  go_loopg [9, 10] n (fun gk s9 s10 wr => ∃ lo hi : Nat, s9 = .int .i64 lo ∧ s10 = .int .i64 hi ∧ lo ≤ hi ∧ hi ≤ n ∧ hi - lo ≤ gk ∧ Hid (Below w.heap.size w wr) ∧ Hid (∀ j, j < lo → cmpN (l.getD j default).name t < 0) ∧ Hid (∀ j, hi ≤ j → j < n → 0 ≤ cmpN (l.getD j default).name t))
  case atStart => exact ⟨0, n, rfl, rfl, Nat.zero_le _, Nat.le_refl _, by omega, Below.refl _ _, (fun j hj => by omega), (fun j h1 h2 => by omega)⟩
  case round =>
    obtain ⟨lo, hi, rfl, rfl, hlh, hin, hg, HB, H1, H2⟩ := hrel
    by_cases hlt : lo < hi
    · obtain ⟨h, hh⟩ : ∃ h, h = (lo + hi) / 2 := ⟨_, rfl⟩
      have hlh2 : lo ≤ h ∧ h < hi := by omega
      have hhi : ((lo : Int) + (hi : Int)) / 2 = (h : Int) := by omega
      obtain ⟨g, o, rfl, e1, e2⟩ := hcell.out wr HB.out h (by omega)
      have HH := Lib.hid hh
      clear hh
      obtain ⟨ym, hym⟩ : ∃ ym, ym = (l.getD h default).name := ⟨_, rfl⟩
      generalize (l.getD h default).ino = yi at *
      rw [← hym] at e1
      have HC := fun w => Lib.hid (search1_any ym yi t w)
      have hr := cmpN_rng ym t
      have HY := Lib.hid hym
      clear hym
      obtain ⟨cv, hcv⟩ : ∃ cv, cv = cmpN ym t := ⟨_, rfl⟩
      rw [← hcv] at HC hr
      have HV := Lib.hid hcv
      clear hcv
      obtain ⟨hr1, hr2⟩ := hr
      by_cases hneg : cv < 0
      · go_wp2_with fail
        refine (HC _).out.mono ?_
        rintro e w2 ⟨rfl, hb2⟩
        have HB2 : Hid (Below w.heap.size w w2) := HB.out.trans (hb2.mono HB.out.size)
        clear hb2
        go_wp2_with fail
        go_roundg (hi - (h + 1))
        case measure => omega
        case rel =>
          refine ⟨h + 1, hi, by go_num, rfl, by omega, hin, Nat.le_refl _, HB2, fun j hj => ?_, H2.out⟩
          exact sort_cmp HS.out (show j ≤ h by omega) (by have := HN.out; omega) t (by rw [← HY.out, ← HV.out]; exact hneg)
      · go_wp2_with fail
        refine (HC _).out.mono ?_
        rintro e w2 ⟨rfl, hb2⟩
        have HB2 : Hid (Below w.heap.size w w2) := HB.out.trans (hb2.mono HB.out.size)
        clear hb2
        go_wp2_with fail
        go_roundg (h - lo)
        case measure => omega
        case rel =>
          refine ⟨lo, h, rfl, by go_num, by omega, by omega, Nat.le_refl _, HB2, H1.out, (fun j h1 h2 => Int.not_lt.1 (fun hc => absurd hneg (Int.not_le.2 (by rw [HV.out, HY.out]; exact sort_cmp HS.out h1 (by have := HN.out; omega) t hc))) : ∀ j, h ≤ j → j < n → 0 ≤ cmpN (l.getD j default).name t)⟩
    · obtain rfl : hi = lo := by omega
      have hke : K = hi := by rw [HK.out]; exact low_eq (by have := HN.out; omega) H1.out (fun j h1 h2 => Int.not_lt.2 (H2.out j h1 (by have := HN.out; omega)))
      by_cases hn2 : hi < n
      · have hni : (hi : Int) < (n : Int) := by omega
        obtain ⟨g, o, rfl, e1, e2⟩ := hcell.out wr HB.out hi hn2
        obtain ⟨ym, hym⟩ : ∃ ym, ym = (l.getD hi default).name := ⟨_, rfl⟩
        generalize (l.getD hi default).ino = yi at *
        rw [← hym] at e1
        have HC := fun w => Lib.hid (search1_any ym yi t w)
        have hff : F = decide (cmpN ym t = 0) := by rw [HF.out, hke, ← hym, decide_eq_true hn2, Bool.true_and]
        generalize cmpN ym t = cv at HC hff
        have HFF := Lib.hid hff
        have HKE := Lib.hid hke
        clear hff hke hym
        by_cases hz : cv = 0
        · go_wp2_with fail
          refine (HC _).out.mono ?_
          rintro e w2 ⟨rfl, hb2⟩
          have HB2 : Hid (Below w.heap.size w w2) := HB.out.trans (hb2.mono HB.out.size)
          clear hb2
          go_wp2_with fail
          go_ret2
          rw [HFF.out, HKE.out, decide_eq_true hz]
          exact ⟨rfl, HB2.out⟩
        · go_wp2_with fail
          refine (HC _).out.mono ?_
          rintro e w2 ⟨rfl, hb2⟩
          have HB2 : Hid (Below w.heap.size w w2) := HB.out.trans (hb2.mono HB.out.size)
          clear hb2
          go_wp2_with fail
          go_ret2
          rw [HFF.out, HKE.out, decide_eq_false hz]
          have hzb : (cv == 0) = false := by simpa using hz
          refine ⟨?_, HB2.out⟩
          show Ending.returned (.tuple #[.int .i64 hi, .bool (cv == 0)]) = _
          rw [hzb]
      · have hni : ¬ (hi : Int) < (n : Int) := by omega
        have hff : F = false := by rw [HF.out, hke, decide_eq_false hn2, Bool.false_and]
        have HFF := Lib.hid hff
        have HKE := Lib.hid hke
        clear hff hke
        go_wp2_with fail
        go_ret2
        rw [HFF.out, HKE.out]
        exact ⟨rfl, HB.out⟩

theorem search_any {w : World} {lv : Value} {l : List En} (t : ByteArray) (hl : HoldsE w lv l) (hb : l.length ≤ 1000000) (hs : SortE l) :
    Calls Try.prog 47 #[lv, .string t] w fun e w' => e = .returned (.tuple #[.int .i64 (lowE l t : Nat), .bool (hasE l t)]) ∧ Below w.heap.size w w' := by
  have HC := Lib.hid (bsearch_any t hl hb hs)
  obtain ⟨ao, c, rfl, -, -, -⟩ := hl
  generalize lowE l t = k at *
  generalize hasE l t = f at *
  go_enter Try.func47, Try.ntmps47
  go_wp2_with fail
  refine HC.out.mono ?_
  rintro e w' ⟨rfl, hb⟩
  have HB := Lib.hid hb
  clear hb
  go_wp2
  go_ret2
  exact ⟨rfl, HB.out⟩
end Go.Proofs.Ytlopdbhjdijlmaa

namespace Go.Proofs.Ytlopdbhjdijlmaa
open Go.ChangeShapes Go.WideShapes Go.ChangeAt Go.RowKit
set_option linter.unusedSimpArgs false
set_option linter.unusedVariables false

theorem Try.infoEntry9 : (Try.prog.info? 27).map (fun i => (i.zero, i.size, i.bytes)) = some (some (.agg #[.string ⟨#[]⟩, .int .i64 0]), 2, 24) := by kernel_rfl
section
variable {P : Program}
theorem run_copy_k (w : World) (dT sT ty elem : TypeId) (size b o dLen dCap : Nat) (a : Addr) (sLen sCap : Nat) (cs : List Value)
    (hu : P.underlying dT = some (.slice elem)) (hs : (P.info? elem).map (·.size) = some size) (hn : cs.length = Nat.min sLen dLen * size)
    (hsrc : ∀ j v, cs[j]? = some v → w.cell? (a.add j) = some v) (hc : ∀ j, j < cs.length → (w.cell? ⟨b, o + j, none⟩).isSome = true) (hf : ∀ j, j < cs.length → w.frozen? ⟨b, o + j, none⟩ = false) (h1 : ∀ v ∈ cs, v.oneCell' = true) :
    (Builtin.copy_ #[dT, sT] ty #[.slice (some ⟨b, o, none⟩) dLen dCap, .slice (some a) sLen sCap]).run P w = .ok (goInt (Nat.min sLen dLen)) (w.setCells b o cs) := by
  have hl := run_loadCells_list (P := P) w a cs hsrc
  have hst := run_storeCells_cells (P := P) b o cs 0 w (by simpa using hc) (by simpa using hf) h1
  cases hq : P.info? elem with
  | none => simp [hq] at hs
  | some i =>
    have hi : i.size = size := by simpa [hq] using hs
    simp [Builtin.copy_, run_underlying hu, Builtin.lenOf, Builtin.firstCells, sizeOf, typeInfo, hq, hi, ← hn, hl, hst]

/-- Into a block that is known whole. -/
theorem run_copy_in (w : World) (dT sT ty elem : TypeId) (size b o dLen dCap : Nat) (a : Addr) (sLen sCap m : Nat) (cs pre mid post : List Value) (t : TypeId)
    (hu : P.underlying dT = some (.slice elem)) (hs : (P.info? elem).map (·.size) = some size) (hm : Nat.min sLen dLen = m) (hn : cs.length = m * size)
    (hsrc : ∀ j v, cs[j]? = some v → w.cell? (a.add j) = some v) (hb : w.heap[b]? = some (.cells (pre ++ (mid ++ post)).toArray t (0, 0))) (hp : pre.length = o) (hl : mid.length = cs.length) (h1 : ∀ v ∈ cs, v.oneCell' = true) :
    (Builtin.copy_ #[dT, sT] ty #[.slice (some ⟨b, o, none⟩) dLen dCap, .slice (some a) sLen sCap]).run P w = .ok (goInt m) (w.setCells b o cs) := by
  rw [← hm]
  refine run_copy_k w dT sT ty elem size b o dLen dCap a sLen sCap cs hu hs (by rw [hm]; exact hn) hsrc (fun j hj => ?_) (fun j hj => frozen_of_row _ _ _ _ _ hb) h1
  rw [cell_of_row _ _ _ _ _ _ hb, Array.getElem?_eq_getElem (show o + j < (pre ++ (mid ++ post)).toArray.size by rw [List.size_toArray, List.length_append, List.length_append]; omega)]
  rfl

theorem wpList_copy_r {w : World} {ops : Array Oper} {rest : List Oper} {o : Oper} {a : Act} {Q : Exit → Act → World → Prop} (hgd : o.guard = none) (d s : Operand) (t t' : TypeId)
    (ho : o.op = .call { callee := .builtin .copy, args := #[d, s], argTypes := #[t, t'] }) (v u : Value) (hd : a.eval d = v) (hs : a.eval s = u) {v' : Value} {w' : World}
    (hr : (Builtin.copy_ #[t, t'] o.type #[v, u]).run P w = .ok v' w') (h : wpList P ops Q rest (a.put o.dst v') w') : wpList P ops Q (o :: rest) a w :=
  wpList_plain hgd fun _ hK => by
    unfold Oper.wp execOp
    simp only [ho, resolve, invoke, builtin, Sem.run_bind, Sem.run_pure, Result.andThen_ok, List.map_toArray, List.map_cons, List.map_nil, hd, hs, hr]
    exact hK _ _ h
theorem step_copy_r {ops : Array Oper} {o : Oper} {a : Act} {w : World} {K : Act → World → Prop} {Q : Exit → Act → World → Prop} {E : Prop}
    (hg : o.guard = none) (d x : Operand) (dT sT : TypeId) (hop : o.op = Op.call { callee := Callee.builtin Builtin.copy, args := #[d, x], argTypes := #[dT, sT] })
    (v u : Value) (hd : a.eval d = v) (hx : a.eval x = u) {v' : Value} {w' : World} (hr : (Builtin.copy_ #[dT, sT] o.type #[v, u]).run P w = .ok v' w') (hK : K (a.put o.dst v') w') :
    if Region.wanted o (yielded ops a.tmps) = true then Oper.wp P o a w K Q else E := by
  have hw : Region.wanted o (yielded ops a.tmps) = true := by simp [Region.wanted, hg]
  rw [if_pos hw]
  unfold Oper.wp
  simp [execOp, hop, resolve, invoke, builtin, hd, hx, hr, Result.andThen]
  exact hK
end

theorem shape_of_row {w : World} {b : Nat} {cs : Array Value} {t : TypeId} {fr : Nat × Nat} (h : w.heap[b]? = some (.cells cs t fr)) : w.shape? b = some (t, cs.size) := by
  unfold World.shape?
  rw [h]

/-- An entry among entries. -/
def putE (l : List En) (k : Nat) (x : En) : List En := l.take k ++ x :: l.drop k
theorem putE_len {l : List En} {k : Nat} (hk : k ≤ l.length) (x : En) : (putE l k x).length = l.length + 1 := by
  unfold putE
  rw [List.length_append, List.length_cons, List.length_take, List.length_drop]
  omega
theorem enC_put (l : List En) (k : Nat) (x : En) : enC (putE l k x) = enC (l.take k) ++ ([Value.string x.name, .int .i64 x.ino] ++ enC (l.drop k)) := by
  unfold putE
  rw [enC_append]
  rfl

set_option maxRecDepth 20000 in
set_option maxHeartbeats 1000000 in
theorem clone_any {w : World} {ev : Value} {l : List En} (he : HoldsE w ev l) (hl : l.length ≤ 1000) :
    Calls Try.prog 48 #[ev] w fun e w' => ∃ v', e = .returned v' ∧ w'.ownsRow w.heap.size 27 2 v' l.length (enC l) ∧ Below w.heap.size w w' := by
  obtain ⟨i1, hi1, hy0, hy1, hy2⟩ := info_parts Try.infoEntry9
  have HE := Lib.hid he
  obtain ⟨ao, c, rfl, e1, e2, e3, e4⟩ := he
  obtain ⟨n, hn⟩ : ∃ n, n = w.heap.size := ⟨_, rfl⟩
  have HN := Lib.hid hn
  rw [← hn]
  cases ao with
  | none =>
    obtain rfl : c = 0 := e3 rfl
    have hl0 : l = [] := List.eq_nil_of_length_eq_zero (by omega)
    subst hl0
    clear e4 HE hn
    have hnil : ∀ w, (binOp .eql 23 (.slice none 0 0) (.slice none 0 0)).run Try.prog w = .ok (.bool true) w := fun w => Lib.run_eql_slice_nil (P := Try.prog) w 23 27 none 0 0 0 0 Try.underlying23
    go_enter Try.func48, Try.ntmps48
    go_wp2
    go_ret
    exact ⟨_, rfl, World.ownsRow_nil _ _ _ _, by rw [HN.out]; exact Below.refl _ _⟩
  | some ad =>
    obtain ⟨L, hL⟩ : ∃ L, L = l.length := ⟨_, rfl⟩
    have HL := Lib.hid hL
    have HM : Hid (Mod nob w (w.alloc (.cells #[] 27))) := (Mod.refl nob w).alloc _
    have O0 : Hid ((w.alloc (.cells #[] 27)).ownsRow n 27 2 (.slice (some ⟨w.heap.size, 0, none⟩) 0 0) 0 []) := own_block (heap_alloc_new _ _) (by rw [hn]; exact Nat.le_refl _) (Nat.zero_le _) rfl
    have HC := Lib.hid ((HE.out.mod HM.out (fun _ _ _ h => h)).cells)
    rw [← hL] at HC hl HE ⊢
    have hge : n ≤ (w.alloc (.cells #[] 27)).heap.size := by rw [hn]; exact HM.out.size
    have HGE := Lib.hid hge
    have hnil : ∀ w, (binOp .eql 23 (.slice (some ad) L c) (.slice none 0 0)).run Try.prog w = .ok (.bool false) w := fun w => Lib.run_eql_slice_nil (P := Try.prog) w 23 27 (some ad) L c 0 0 Try.underlying23
    clear e4 hge e3 hL
    go_enter Try.func48, Try.ntmps48
    go_upto_region 3 with (fail)
    go_wp2_with (with_reducible refine wpList_append_any (o := ⟨some 7, _, _, _, _, _⟩) rfl (.tmp 5) (.tmp 6) _ rfl n 27 i1 _ 2 24 Try.underlying23 hi1 hy0 hy1 hy2 rfl (by omega) (.slice (some ⟨w.heap.size, 0, none⟩) 0 0) 0 ([]) rfl O0.out (.slice (some ad) L c) L (enC l) rfl HC.out ?_ (enC_one _) (by unfold maxLen; omega) (by omega) HGE.out ?_)
    case refine_1 => rw [enC_len, HL.out]
    case refine_2 =>
      intro v' w' hown hgr _
      have HO := Lib.hid hown
      have HM2 : Hid (Mod nob w w') := mod_grown HM.out hgr (fun k hk => by cases hk; exact Nat.le_refl _)
      clear hown hgr
      go_wp2
      go_ret
      exact ⟨_, rfl, by rw [HN.out]; exact HO.out, by rw [HN.out]; exact nob_mod_below HM2.out⟩

theorem zeroCells_len (z : Array Value) (k : Nat) : (Builtin.zeroCells z k).size = k * z.size := by simp [Builtin.zeroCells]

set_option maxRecDepth 20000 in
set_option maxHeartbeats 4000000 in
theorem insert9 {w : World} {base : Nat} {v : Value} {l : List En} (x : En) (k : Nat) (hk : k ≤ l.length) (hl : l.length ≤ 1000) (hown : w.ownsRow base 27 2 v l.length (enC l)) (hbase : base ≤ w.heap.size)
    {vb : Nat} (hvb : w.heap[vb]? = some (.cells #[.string x.name, .int .i64 x.ino] 27 (0, 0))) (hne : v.ownBlock ≠ some vb) :
    Calls Try.prog 49 #[v, .int .i64 (k : Nat), .slice (some ⟨vb, 0, none⟩) 1 1] w fun e w' => ∃ v', e = .returned v' ∧ w'.ownsRow base 27 2 v' (l.length + 1) (enC (putE l k x)) ∧ Mod (fun q => v.ownBlock = some q) w w' := by
  obtain ⟨i1, hi1, hy0, hy1, hy2⟩ := info_parts Try.infoEntry9
  obtain ⟨nm, ino⟩ := x
  dsimp only at hvb
  have HVB := Lib.hid hvb
  have HC1 : Hid (HoldsC w (.slice (some ⟨vb, 0, none⟩) 1 1) 1 [.string nm, .int .i64 ino]) := HoldsC.block (cs := #[.string nm, .int .i64 ino]) hvb (by unfold maxLen; omega)
  have HPE := Lib.hid (enC_put l k ⟨nm, ino⟩)
  obtain ⟨L, hL⟩ : ∃ L, L = l.length := ⟨_, rfl⟩
  have HL := Lib.hid hL
  rw [← hL] at hk hl hown ⊢
  have HO := Lib.hid hown
  have HNE := Lib.hid hne
  have HLN : Hid (([Value.string nm, .int .i64 ino]).length = 1 * 2) := rfl
  have HON : Hid (∀ u ∈ [Value.string nm, .int .i64 ino], u.oneCell' = true) := fun u hu => by simp only [List.mem_cons, List.not_mem_nil, or_false] at hu; rcases hu with rfl | rfl <;> rfl
  have HK63 : Hid (L + 1 ≤ maxLen) := by unfold Hid maxLen; omega
  have HKB : Hid ((L + 1) * 24 ≤ 140737488355328) := by unfold Hid; omega
  by_cases hkl : k = L
  · subst hkl
    have hput : enC (putE l k ⟨nm, ino⟩) = enC l ++ [.string nm, .int .i64 ino] := by
      rw [HPE.out, HL.out, List.take_length, List.drop_length, show enC [] = [] from rfl, List.append_nil]
    rw [hput]
    rcases hown.2 with ⟨rfl, h0⟩ | ⟨g, cap, cur, rfl, hbg, hg, hnc, hcm, hcs, htk⟩
    · obtain rfl : k = 0 := h0
      clear hput hL hvb hown HPE hne
      go_enter Try.func49, Try.ntmps49
      go_wp2_with (with_reducible refine wpList_append_any (o := ⟨some 25, _, _, _, _, _⟩) rfl (.tmp 23) (.tmp 24) _ rfl base 27 i1 _ 2 24 Try.underlying23 hi1 hy0 hy1 hy2 rfl (by omega) (.slice none 0 0) 0 (enC l) rfl HO.out (.slice (some ⟨vb, 0, none⟩) 1 1) 1 [.string nm, .int .i64 ino] rfl HC1.out HLN.out HON.out HK63.out HKB.out hbase ?_)
      intro v' w' hown hgr _
      have HO2 := Lib.hid hown
      have HG2 := Lib.hid hgr
      clear hown hgr
      go_wp2
      go_ret
      exact ⟨_, rfl, HO2.out, mod_of_grown HG2.out⟩
    · clear hput hL hvb hown HPE hne
      rcases Classical.em (cap = k) with hck | hck
      all_goals
        try subst hck
        go_enter Try.func49, Try.ntmps49
        go_wp2_with (first
          | (with_reducible refine wpList_append_any (o := ⟨some 25, _, _, _, _, _⟩) rfl (.tmp 23) (.tmp 24) _ rfl base 27 i1 _ 2 24 Try.underlying23 hi1 hy0 hy1 hy2 rfl (by omega) (.slice (some ⟨g, 0, none⟩) k cap) k (enC l) rfl HO.out (.slice (some ⟨vb, 0, none⟩) 1 1) 1 [.string nm, .int .i64 ino] rfl HC1.out HLN.out HON.out HK63.out HKB.out hbase ?_)
          | (with_reducible refine wpList_append_any (o := ⟨some 25, _, _, _, _, _⟩) rfl (.tmp 23) (.tmp 24) _ rfl base 27 i1 _ 2 24 Try.underlying23 hi1 hy0 hy1 hy2 rfl (by omega) (.slice (some ⟨g, 0, none⟩) cap cap) cap (enC l) rfl HO.out (.slice (some ⟨vb, 0, none⟩) 1 1) 1 [.string nm, .int .i64 ino] rfl HC1.out HLN.out HON.out HK63.out HKB.out hbase ?_))
        intro v' w' hown hgr _
        have HO2 := Lib.hid hown
        have HG2 := Lib.hid hgr
        clear hown hgr
        go_wp2
        go_ret
        exact ⟨_, rfl, HO2.out, mod_of_grown HG2.out⟩
  · rcases hown.2 with ⟨rfl, h0⟩ | ⟨b, c, cur, rfl, hbg, hg, hnc, hcm, hcs, htk⟩
    · omega
    · have hbv : b ≠ vb := fun e => hne (by subst e; rfl)
      -- the row: ahead of k, the first behind it, the others, what is spare
      obtain ⟨A, hA⟩ : ∃ A, A = enC (l.take k) := ⟨_, rfl⟩
      obtain ⟨M, hM⟩ : ∃ M, M = enC (l.drop k) := ⟨_, rfl⟩
      obtain ⟨S, hS⟩ : ∃ S, S = cur.toList.drop (L * 2) := ⟨_, rfl⟩
      have hAl : A.length = k * 2 := by rw [hA, enC_len, List.length_take]; congr 1; omega
      have hMl : M.length = (L - k) * 2 := by rw [hM, enC_len, List.length_drop, ← hL]
      have hAM : A ++ M = enC l := by rw [hA, hM, ← enC_append, List.take_append_drop]
      have hcur : cur = (A ++ (M ++ S)).toArray := by
        rw [← List.append_assoc, hAM, ← htk, hS, List.take_append_drop, Array.toArray_toList]
      have hSl : S.length = (c - L) * 2 := by rw [hS, List.length_drop, Array.length_toList, hcs, ← Nat.sub_mul]
      have h1M : ∀ u ∈ M, u.oneCell' = true := by rw [hM]; exact enC_one _
      rw [hcur] at hg
      have hput : enC (putE l k ⟨nm, ino⟩) = A ++ ([.string nm, .int .i64 ino] ++ M) := by rw [HPE.out, ← hA, ← hM]
      rw [hput]
      have hsz : (Try.prog.info? 27).map (·.size) = some 2 := by rw [hi1]; simp [hy1]
      have HG := Lib.hid hg
      have HP := Lib.hid hput
      have HU := Lib.hid Try.underlying23
      clear hput HPE HC1 hown hA hM hS hAM hcur htk hcs hvb hL hg hne HO
      have hkL : k < L := by omega
      have hz2 : ¬ ((k : Int) = (L : Int)) := by omega
      have hin : (k : Int) ≤ (L : Int) := by omega
      obtain ⟨M1, hM1⟩ : ∃ M1, M1 = M.take 2 := ⟨_, rfl⟩
      obtain ⟨M2, hM2⟩ : ∃ M2, M2 = M.drop 2 := ⟨_, rfl⟩
      have hMM : M = M1 ++ M2 := by rw [hM1, hM2, List.take_append_drop]
      have hM1l : M1.length = 2 := by rw [hM1, List.length_take, hMl]; omega
      have hM2l : M2.length = (L - k) * 2 - 2 := by rw [hM2, List.length_drop, hMl]
      have hbsrc : Hid (∀ j v, M[j]? = some v → w.cell? ((⟨b, k * 2, none⟩ : Addr).add j) = some v) := fun j v hj => by
        rw [Addr.add_lit, cell_of_row _ _ _ _ _ _ HG.out, List.getElem?_toArray, List.getElem?_append_right (by omega), show k * 2 + j - A.length = j by omega, List.getElem?_append_left (by have := (List.getElem?_eq_some_iff.1 hj).1; omega)]
        exact hj
      have HX1 : Hid (∀ v ∈ [Value.string nm, .int .i64 ino], v.oneCell' = true) := HON.out
      clear hM1 hM2
      by_cases hroom : L + 1 ≤ c
      · obtain ⟨S1, hS1⟩ : ∃ S1, S1 = S.take 2 := ⟨_, rfl⟩
        obtain ⟨S2, hS2⟩ : ∃ S2, S2 = S.drop 2 := ⟨_, rfl⟩
        have hSS : S = S1 ++ S2 := by rw [hS1, hS2, List.take_append_drop]
        have hS1l : S1.length = 2 := by rw [hS1, List.length_take, hSl]; omega
        have hS2l : S2.length = (c - L) * 2 - 2 := by rw [hS2, List.length_drop, hSl]
        have hov : ∀ o lb cb, (callFunc 82 #[.slice (some ⟨vb, 0, none⟩) 1 1, .slice (some ⟨b, o, none⟩) lb cb]).run Try.prog w = .ok (.value (.bool false)) w := fun o lb cb => by
          rw [run_callFunc_extern Try.func82 (by kernel_rfl) (by kernel_rfl) (by kernel_rfl) (e := Extern.SlicesOverlaps.overlaps #[23, 23] #[4]) (by kernel_rfl),
            Lib.run_overlaps_apart w 23 4 27 Try.underlying23 2 (fun w => by simp [sizeOf, typeInfo, hi1, hy1]) ⟨vb, 0, none⟩ ⟨b, o, none⟩ 1 1 lb cb (fun e => hbv e.symm) 27 27 2 _ (shape_of_row HVB.out) (shape_of_row HG.out) (by rw [List.size_toArray, List.length_append, List.length_append]; omega) (frozen_of_row _ _ _ _ _ HVB.out) (frozen_of_row _ _ _ _ _ HVB.out)]
          rfl
        have hb2 : ¬ (c = k + 1) := by omega
        have hb4 : ¬ (c = k) := by omega
        have hroomi : ¬ ((c : Int) < (L : Int) + 1) := by omega
        have hw1 : IntKind.i64.wrap ((k : Int) + 1) = (k : Int) + 1 := by rw [IntKind.wrap_i64]; omega
        have hb1 : (0 : Int) ≤ (k : Int) + 1 := by omega
        have htn : ((k : Int) + 1).toNat = k + 1 := by omega
        have hb3 : (k : Int) ≤ (L : Int) + 1 := by omega
        clear hS1 hS2
        go_enter Try.func49, Try.ntmps49
        have hgd : w.drew.heap[b]? = some (.cells ((A ++ M1) ++ ((M2 ++ S1) ++ S2)).toArray 27 (0, 0)) := by
          have h := HG.out
          rw [hMM, hSS, show A ++ (M1 ++ M2 ++ (S1 ++ S2)) = A ++ M1 ++ (M2 ++ S1 ++ S2) by simp only [List.append_assoc]] at h
          exact h
        have hpl : (A ++ M1).length = (k + 1) * 2 := by rw [List.length_append]; omega
        have hml : (M2 ++ S1).length = M.length := by rw [List.length_append]; omega
        have hcp1 : Hid (∀ ty dl dc sl sc, Nat.min sl dl = L - k → (Builtin.copy_ #[23, 23] ty #[.slice (some ⟨b, (k + 1) * 2, none⟩) dl dc, .slice (some ⟨b, k * 2, none⟩) sl sc]).run Try.prog w.drew = .ok (goInt (L - k : Nat)) (w.drew.setCells b ((k + 1) * 2) M)) := fun ty dl dc sl sc hmin =>
          run_copy_in w.drew _ _ ty 27 2 b ((k + 1) * 2) dl dc ⟨b, k * 2, none⟩ sl sc (L - k) M (A ++ M1) (M2 ++ S1) S2 27 HU.out hsz hmin hMl hbsrc.out hgd hpl hml h1M
        have hg1 := heap_setCells_mid b 27 M (A ++ M1) (M2 ++ S1) S2 w.drew hgd hml
        rw [hpl] at hg1
        have HG1 : Hid ((w.drew.setCells b ((k + 1) * 2) M).heap[b]? = some (.cells (A ++ (M1 ++ (M ++ S2))).toArray 27 (0, 0))) := by unfold Hid; rw [hg1, List.append_assoc]
        have HM1 : Hid (Mod (fun q => b = q) w (w.drew.setCells b ((k + 1) * 2) M)) := Mod.setCells b (.inl rfl) _ _ _ ((Mod.refl _ w).drew)
        clear hgd hpl hml hg1 hMM hSS
        go_upto_region 15 with (simp only [hov])
        have HR1 := Lib.hid (hcp1.out 3 (L - k) (c - (k + 1)) (L + 1 - k) (c - k) (by simp only [Nat.min_def]; split <;> omega))
        clear hcp1
        go_region_law (refine step_copy_r (o := ⟨some 77, _, _, _, _, _⟩) rfl (.tmp 73) (.tmp 76) 23 23 rfl (.slice (some ⟨b, (k + 1) * 2, none⟩) (L - k) (c - (k + 1))) (.slice (some ⟨b, k * 2, none⟩) (L + 1 - k) (c - k)) (by simp [Act.eval, Act.put]) (by simp [Act.eval, Act.put]) HR1.out ?_)
        have HVB1 : Hid ((w.drew.setCells b ((k + 1) * 2) M).heap[vb]? = some (.cells #[.string nm, .int .i64 ino] 27 (0, 0))) := HM1.out.heap HVB.out (fun e => hbv e)
        generalize w.drew.setCells b ((k + 1) * 2) M = w1 at *
        clear HR1 hov
        have hsv : ∀ j v, [Value.string nm, .int .i64 ino][j]? = some v → w1.cell? ((⟨vb, 0, none⟩ : Addr).add j) = some v := fun j v hj => by
          rw [Addr.add_lit, Nat.zero_add, cell_of_row _ _ _ _ _ _ HVB1.out]
          simpa using hj
        have HR2 : Hid (∀ ty dl dc, 1 ≤ dl → (Builtin.copy_ #[23, 23] ty #[.slice (some ⟨b, k * 2, none⟩) dl dc, .slice (some ⟨vb, 0, none⟩) 1 1]).run Try.prog w1 = .ok (goInt (1 : Nat)) (w1.setCells b (k * 2) [.string nm, .int .i64 ino])) := fun ty dl dc hd =>
          run_copy_in w1 _ _ ty 27 2 b (k * 2) dl dc ⟨vb, 0, none⟩ 1 1 1 [.string nm, .int .i64 ino] A M1 (M ++ S2) 27 HU.out hsz (Nat.min_eq_left hd) rfl hsv HG1.out hAl hM1l HX1.out
        have hg2 := heap_setCells_mid b 27 [Value.string nm, .int .i64 ino] A M1 (M ++ S2) w1 HG1.out hM1l
        rw [hAl] at hg2
        have HG2 := Lib.hid hg2
        have HM2 : Hid (Mod (fun q => b = q) w (w1.setCells b (k * 2) [.string nm, .int .i64 ino])) := Mod.setCells b (.inl rfl) _ _ _ HM1.out
        have HR3 := Lib.hid (HR2.out 3 (L + 1 - k) (c - k) (by omega))
        clear hg2 hsv HR2
        go_wp2_with (with_reducible refine wpList_copy_r (o := ⟨some 82, _, _, _, _, _⟩) rfl (.tmp 80) (.tmp 81) 23 23 rfl (.slice (some ⟨b, k * 2, none⟩) (L + 1 - k) (c - k)) (.slice (some ⟨vb, 0, none⟩) 1 1) rfl rfl HR3.out ?_)
        go_ret
        refine ⟨_, rfl, ⟨?_, .inr ⟨b, c, _, rfl, hbg, HG2.out, hroom, hcm, ?_, ?_⟩⟩, HM2.out.mono (fun q _ e => by rw [← e]; rfl)⟩
        · simp only [List.length_append, hAl, hMl, List.length_cons, List.length_nil]; omega
        · simp only [List.size_toArray, List.length_append, hAl, hMl, hS2l, List.length_cons, List.length_nil]; omega
        · have hw : (A ++ ([Value.string nm, .int .i64 ino] ++ M)).length = (L + 1) * 2 := by simp only [List.length_append, hAl, hMl, List.length_cons, List.length_nil]; omega
          have e : A ++ ([Value.string nm, .int .i64 ino] ++ (M ++ S2)) = (A ++ ([Value.string nm, .int .i64 ino] ++ M)) ++ S2 := by simp only [List.append_assoc]
          show ((A ++ ([Value.string nm, .int .i64 ino] ++ (M ++ S2))).take ((L + 1) * 2)) = _
          rw [e, ← hw, List.take_left]
          rfl
      · have hcL : c < L + 1 := by omega
        have hci : (c : Int) < (L : Int) + 1 := by omega
        have hkk : (L : Int) + 1 - (k : Int) = ((L + 1 - k : Nat) : Int) := by omega
        have hik : k + (L + 1 - k) = L + 1 := by omega
        obtain ⟨z, hz⟩ : ∃ z : Value, z = .agg #[.string ⟨#[]⟩, .int .i64 0] := ⟨_, rfl⟩
        have hzc : z.cells.size = 2 := by rw [hz]; rfl
        rw [← hz] at hy0
        have hold : (Builtin.firstCells i1.size k (.slice (some ⟨b, 0, none⟩) k c)).run Try.prog w.drew = .ok A.toArray w.drew := by
          rw [hy1]
          exact run_firstCells_some w.drew 2 k ⟨b, 0, none⟩ k c A hAl (fun j v hj => by
            rw [Addr.add_lit, Nat.zero_add]
            show w.cell? ⟨b, j, none⟩ = some v
            rw [cell_of_row _ _ _ _ _ _ HG.out, List.getElem?_toArray, List.getElem?_append_left (List.getElem?_eq_some_iff.1 hj).1]
            exact hj)
        have hbig : (L + 1) * 24 ≤ 140737488355328 := by omega
        have hrz := Lib.run_append_grow_zeros (P := Try.prog) w 23 3 23 27 i1 z .i64 .i64 HU.out Try.underlying3 hi1 hy0 (some ⟨b, 0, none⟩) k c A hold (L + 1 - k) (by omega) (by omega) (by omega) (by omega) (by rw [hy2]; omega) (by rw [hy2, hik]; exact growslice_fits hcL hbig)
        rw [hik, ← hkk] at hrz
        obtain ⟨G, hG⟩ : ∃ G, G = grownCap w (L + 1) c 27 := ⟨_, rfl⟩
        rw [← hG] at hrz
        have hGn : L + 1 ≤ G := by rw [hG]; exact grownCap_ge w _ _ _
        have hGm : G ≤ maxLen := by rw [hG]; exact grownCap_le_maxLen w (L + 1) c 27 (by unfold maxLen; omega)
        obtain ⟨Z, hZ⟩ : ∃ Z : List Value, Z = (Builtin.zeroCells z.cells (L + 1 - k)).toList := ⟨_, rfl⟩
        obtain ⟨Zs, hZs⟩ : ∃ Z : List Value, Z = (Builtin.zeroCells z.cells (G - (L + 1))).toList := ⟨_, rfl⟩
        have hZl : Z.length = (L + 1 - k) * 2 := by rw [hZ, Array.length_toList, zeroCells_len, hzc]
        have hZsl : Zs.length = (G - (L + 1)) * 2 := by rw [hZs, Array.length_toList, zeroCells_len, hzc]
        have hrow : A.toArray ++ Builtin.zeroCells z.cells (L + 1 - k) ++ Builtin.zeroCells z.cells (G - (L + 1)) = (A ++ (Z ++ Zs)).toArray := by
          apply Array.toList_inj.1
          rw [hZ, hZs]
          simp [List.append_assoc]
        rw [hrow] at hrz
        obtain ⟨Z1, hZ1⟩ : ∃ Z1, Z1 = Z.take 2 := ⟨_, rfl⟩
        obtain ⟨Z2, hZ2⟩ : ∃ Z2, Z2 = Z.drop 2 := ⟨_, rfl⟩
        have hZZ : Z = Z1 ++ Z2 := by rw [hZ1, hZ2, List.take_append_drop]
        have hZ1l : Z1.length = 2 := by rw [hZ1, List.length_take, hZl]; omega
        have hZ2l : Z2.length = (L - k) * 2 := by rw [hZ2, List.length_drop, hZl]; omega
        rw [hZZ, List.append_assoc Z1 Z2 Zs] at hrz
        obtain ⟨N, hN⟩ : ∃ N, N = w.heap.size := ⟨_, rfl⟩
        obtain ⟨W1, hW1⟩ : ∃ W1, W1 = w.drew.alloc (.cells (A ++ (Z1 ++ (Z2 ++ Zs))).toArray 27) := ⟨_, rfl⟩
        rw [← hW1, ← hN] at hrz
        have HRZ := Lib.hid hrz
        have HM1 : Hid (Mod nob w W1) := by rw [hW1]; exact ((Mod.refl nob w).drew).alloc _
        have HGN : Hid (W1.heap[N]? = some (.cells (A ++ (Z1 ++ (Z2 ++ Zs))).toArray 27 (0, 0))) := by unfold Hid; rw [hW1, hN]; exact heap_alloc_new w.drew _
        have HVB1 : Hid (W1.heap[vb]? = some (.cells #[.string nm, .int .i64 ino] 27 (0, 0))) := HM1.out.heap HVB.out (fun e => e)
        have hsv : ∀ j v, [Value.string nm, .int .i64 ino][j]? = some v → W1.cell? ((⟨vb, 0, none⟩ : Addr).add j) = some v := fun j v hj => by
          rw [Addr.add_lit, Nat.zero_add, cell_of_row _ _ _ _ _ _ HVB1.out]
          simpa using hj
        have HR1 := Lib.hid (run_copy_in (P := Try.prog) W1 23 23 3 27 2 N (k * 2) (L + 1 - k) (G - k) ⟨vb, 0, none⟩ 1 1 1 [.string nm, .int .i64 ino] A Z1 (Z2 ++ Zs) 27 HU.out hsz (Nat.min_eq_left (by omega)) rfl hsv HGN.out hAl hZ1l HX1.out)
        have hg2 := heap_setCells_mid N 27 [Value.string nm, .int .i64 ino] A Z1 (Z2 ++ Zs) W1 HGN.out hZ1l
        rw [hAl, ← List.append_assoc A] at hg2
        have HG2 := Lib.hid hg2
        have HM2 : Hid (Mod nob w (W1.setCells N (k * 2) [.string nm, .int .i64 ino])) := Mod.setCells N (.inr (by rw [hN]; exact Nat.le_refl _)) _ _ _ HM1.out
        obtain ⟨W2, hW2⟩ : ∃ W2, W2 = W1.setCells N (k * 2) [.string nm, .int .i64 ino] := ⟨_, rfl⟩
        rw [← hW2] at HR1 HG2 HM2
        have HM2d : Hid (Mod nob w W2.drew) := HM2.out.drew
        have hpl : (A ++ [Value.string nm, .int .i64 ino]).length = (k + 1) * 2 := by rw [List.length_append, hAl]; simp only [List.length_cons, List.length_nil]; omega
        have hdN : W2.drew.heap[N]? = some (.cells ((A ++ [Value.string nm, .int .i64 ino]) ++ (Z2 ++ Zs)).toArray 27 (0, 0)) := HG2.out
        have HR2 := Lib.hid (run_copy_in (P := Try.prog) W2.drew 23 23 3 27 2 N ((k + 1) * 2) (L - k) (G - (k + 1)) ⟨b, k * 2, none⟩ (L - k) (c - k) (L - k) M (A ++ [.string nm, .int .i64 ino]) Z2 Zs 27 HU.out hsz (Nat.min_self _) hMl (fun j v hj => HM2d.out.cell (hbsrc.out j v hj) (fun e => e)) hdN hpl (by rw [hZ2l, hMl]) h1M)
        have hg3 := heap_setCells_mid N 27 M (A ++ [.string nm, .int .i64 ino]) Z2 Zs W2.drew hdN (by rw [hZ2l, hMl])
        rw [hpl] at hg3
        have HG3 := Lib.hid hg3
        have HM3 : Hid (Mod nob w (W2.drew.setCells N ((k + 1) * 2) M)) := Mod.setCells N (.inr (by rw [hN]; exact Nat.le_refl _)) _ _ _ HM2d.out
        have HNB : Hid (base ≤ N) := by rw [hN]; exact hbase
        have hGi : ¬ (G = k) := by omega
        have hGim : ¬ (G = k + 1) := by omega
        have hcik : ¬ (c = k) := by omega
        have hw1 : IntKind.i64.wrap ((k : Int) + 1) = (k : Int) + 1 := by rw [IntKind.wrap_i64]; omega
        have hb1 : (0 : Int) ≤ (k : Int) + 1 := by omega
        have htn : ((k : Int) + 1).toNat = k + 1 := by omega
        have hb3 : (k : Int) ≤ (L : Int) + 1 := by omega
        clear hMM hM1l hM2l hkk hik hold hG hZ hZs hrow hrz hZ1 hZ2 hZZ hN hW1 hW2 hsv hg2 hg3 hdN hpl hz hy0 hzc
        go_enter Try.func49, Try.ntmps49
        go_upto_region 11 with (first
          | (with_reducible refine Lib.wpList_append_run (o := ⟨some 40, _, _, _, _, _⟩) _ rfl (.tmp 34) (.tmp 39) 23 3 rfl (.slice (some ⟨b, 0, none⟩) k c) (.int .i64 ((L : Int) + 1 - (k : Int))) rfl rfl _ _ HRZ.out ?_)
          | (with_reducible refine wpList_copy_r (o := ⟨some 45, _, _, _, _, _⟩) rfl (.tmp 43) (.tmp 44) 23 23 rfl (.slice (some ⟨N, k * 2, none⟩) (L + 1 - k) (G - k)) (.slice (some ⟨vb, 0, none⟩) 1 1) rfl rfl HR1.out ?_))
        go_region_law (refine step_copy_r (o := ⟨some 54, _, _, _, _, _⟩) rfl (.tmp 50) (.tmp 53) 23 23 rfl (.slice (some ⟨N, (k + 1) * 2, none⟩) (L - k) (G - (k + 1))) (.slice (some ⟨b, k * 2, none⟩) (L - k) (c - k)) (by simp [Act.eval, Act.put]) (by simp [Act.eval, Act.put]) HR2.out ?_)
        go_wp2_with fail
        go_ret
        refine ⟨_, rfl, ⟨?_, .inr ⟨N, G, _, rfl, HNB.out, HG3.out, hGn, hGm, ?_, ?_⟩⟩, HM3.out.mono (fun q _ e => e.elim)⟩
        · simp only [List.length_append, hAl, hMl, List.length_cons, List.length_nil]; omega
        · simp only [List.size_toArray, List.length_append, hAl, hMl, hZsl, List.length_cons, List.length_nil]; omega
        · have hw : (A ++ ([Value.string nm, .int .i64 ino] ++ M)).length = (L + 1) * 2 := by simp only [List.length_append, hAl, hMl, List.length_cons, List.length_nil]; omega
          have e : A ++ [Value.string nm, .int .i64 ino] ++ (M ++ Zs) = (A ++ ([Value.string nm, .int .i64 ino] ++ M)) ++ Zs := by simp only [List.append_assoc]
          show ((A ++ [Value.string nm, .int .i64 ino] ++ (M ++ Zs)).take ((L + 1) * 2)) = _
          rw [e, ← hw, List.take_left]
          rfl
end Go.Proofs.Ytlopdbhjdijlmaa

namespace Go.Proofs.Ytlopdbhjdijlmaa
open Go.ChangeShapes Go.WideShapes Go.ChangeAt Go.RowKit
set_option linter.unusedSimpArgs false
set_option linter.unusedVariables false

def eqN (a b : ByteArray) : Bool := a.toList == b.toList

theorem without1_any (nm : ByteArray) (ino : Int) (t : ByteArray) (q : Nat) {W : World} (hq : W.cell? ⟨q, 0, none⟩ = some (.string t)) :
    Calls Try.prog 51 #[.agg #[.string nm, .int .i64 ino], .pointer (some ⟨q, 0, none⟩)] W fun e w' => e = .returned (.bool (eqN nm t)) ∧ Below W.heap.size W w' := by
  have h2 : (W.alloc (.cells #[.string nm, .int .i64 ino] 27)).cell? ⟨q, 0, none⟩ = some (.string t) := ((Mod.refl nob W).alloc _).cell hq (fun h => h)
  clear hq
  go_enter Try.func51, Try.ntmps51
  go_wp2
  go_ret
  exact ⟨rfl, (Below.refl _ _).alloc (Nat.le_refl _) _⟩

/-- The first of a name, from one on; -1: there is none. -/
def hitE (l : List En) (t : ByteArray) : Nat → Nat → Int
  | _, 0 => -1
  | k, f + 1 => if eqN (l.getD k default).name t then (k : Int) else hitE l t (k + 1) f

set_option maxRecDepth 20000 in
set_option maxHeartbeats 1000000 in
theorem index9 {w : World} {lv : Value} {l : List En} {t : ByteArray} {q : Nat} (hl : HoldsE w lv l) (hb : l.length ≤ 1000) (hq : w.cell? ⟨q, 0, none⟩ = some (.string t)) :
    Calls Try.prog 84 #[lv, .func (.func 51) #[] #[.pointer (some ⟨q, 0, none⟩)]] w fun e w' => e = .returned (.int .i64 (hitE l t 0 l.length)) ∧ Below w.heap.size w w' := by
  have HL := Lib.hid hl
  have HQ : Hid (∀ wr, Below w.heap.size w wr → wr.cell? ⟨q, 0, none⟩ = some (.string t)) := fun wr h => (mod_of_below h).cell hq (fun h => h)
  obtain ⟨ao, c, rfl, hlc, hcm, -⟩ := hl
  obtain ⟨n, hn⟩ : ∃ n, n = l.length := ⟨_, rfl⟩
  rw [← hn] at HL hb hlc ⊢
  have HN := Lib.hid hn
  have hcell : Hid (∀ wr, Below w.heap.size w wr → ∀ j, j < n → ∃ g o, ao = some ⟨g, o, none⟩ ∧ wr.cell? ⟨g, o + j * 2, none⟩ = some (.string (l.getD j default).name) ∧ wr.cell? ⟨g, o + j * 2 + 1, none⟩ = some (.int .i64 (l.getD j default).ino)) := by
    intro wr hm j hj
    obtain ⟨ao', c', e, -, -, -, h3⟩ := HL.out.below hm
    rw [← hn] at e h3
    simp only [Value.slice.injEq] at e
    obtain ⟨rfl, -, rfl⟩ := e
    exact h3 j hj
  unfold maxLen at hcm
  clear hn hq
  go_enter Try.func84, Try.ntmps84
  go_wp2
  go_loopg [8] n (fun gk i wr => ∃ (k : Nat), k + gk = n ∧ i = .int .i64 k ∧ Hid (hitE l t 0 n = hitE l t k gk) ∧ Hid (Below w.heap.size w wr))
  case atStart => exact ⟨0, by omega, rfl, rfl, Below.refl _ _⟩
  case round =>
    obtain ⟨k, hk, rfl, HE, HB⟩ := hrel
    by_cases hlt : k < n
    · obtain ⟨g, o, rfl, e1, e2⟩ := hcell.out wr HB.out k hlt
      obtain ⟨gm, hgm⟩ : ∃ gm, gk = gm + 1 := ⟨gk - 1, by omega⟩
      have hE := HE.out
      rw [hgm] at hE
      simp only [hitE] at hE
      generalize l.getD k default = x at e1 e2 hE
      obtain ⟨nm, ino⟩ := x
      simp only at e1 e2 hE
      have HG1 := fun W h => Lib.hid (without1_any nm ino t q (W := W) h)
      have HQ1 := Lib.hid (HQ.out wr HB.out)
      cases hp : eqN nm t with
      | false =>
        rw [hp] at hE HG1
        have HE2 := Lib.hid hE
        clear hE hp
        go_wp2_with fail
        refine (HG1 _ HQ1.out).out.mono ?_
        rintro e w2 ⟨rfl, hb2⟩
        have HB2 : Hid (Below w.heap.size w w2) := HB.out.trans (hb2.mono HB.out.size)
        clear hb2
        go_wp2
        go_roundg gm
        case measure => omega
        case rel => exact ⟨k + 1, by omega, by go_num, HE2.out, HB2.out⟩
      | true =>
        rw [hp] at hE HG1
        have HE2 := Lib.hid hE
        clear hE hp
        go_wp2_with fail
        refine (HG1 _ HQ1.out).out.mono ?_
        rintro e w2 ⟨rfl, hb2⟩
        have HB2 : Hid (Below w.heap.size w w2) := HB.out.trans (hb2.mono HB.out.size)
        clear hb2
        go_wp2
        go_ret
        rw [HE2.out]
        exact ⟨rfl, HB2.out⟩
    · obtain rfl : k = n := by omega
      obtain rfl : gk = 0 := by omega
      go_wp2
      go_ret
      rw [HE.out]
      exact ⟨rfl, HB.out⟩

theorem hitE_spec (l : List En) (t : ByteArray) : ∀ f k, k + f = l.length → (∀ j, j < k → eqN (l.getD j default).name t = false) →
    (hitE l t k f = -1 ∧ ∀ j, j < l.length → eqN (l.getD j default).name t = false) ∨ ∃ i, i < l.length ∧ hitE l t k f = (i : Int) ∧ eqN (l.getD i default).name t = true ∧ ∀ j, j < i → eqN (l.getD j default).name t = false
  | 0, k, hk, h => .inl ⟨rfl, fun j hj => h j (by omega)⟩
  | f + 1, k, hk, h => by
    by_cases hp : eqN (l.getD k default).name t = true
    · exact .inr ⟨k, by omega, if_pos hp, hp, h⟩
    · have e : hitE l t k (f + 1) = hitE l t (k + 1) f := if_neg hp
      rw [e]
      refine hitE_spec l t f (k + 1) (by omega) (fun j hj => ?_)
      by_cases hjk : j = k
      · subst hjk; simpa using hp
      · exact h j (by omega)

/-- The entries of other names. -/
def dropE (l : List En) (t : ByteArray) : List En := l.filter fun x => !eqN x.name t

section
variable {P : Program}
theorem run_clear_k (w : World) (t e ty : TypeId) (z : Value) (size : Nat) (ht : P.underlying t = some (.slice e)) (hv : ∀ w, (zeroValue e).run P w = .ok z w) (hz : z.cells.size = size) (b o n c : Nat) (hn : 0 < n)
    (pre mid post : List Value) (tt : TypeId) (hb : w.heap[b]? = some (.cells (pre ++ (mid ++ post)).toArray tt (0, 0))) (hp : pre.length = o) (hl : mid.length = n * size) (h1 : ∀ u ∈ (Builtin.zeroCells z.cells n).toList, u.oneCell' = true) :
    (Builtin.clear_ #[t] ty #[.slice (some ⟨b, o, none⟩) n c]).run P w = .ok (.tuple #[]) (w.setCells b o (Builtin.zeroCells z.cells n).toList) := by
  have hzl : (Builtin.zeroCells z.cells n).toList.length = n * size := by rw [Array.length_toList, zeroCells_len, hz]
  have hst := run_storeCells_cells (P := P) b o (Builtin.zeroCells z.cells n).toList 0 w (fun j hj => by
      rw [Nat.add_zero, cell_of_row _ _ _ _ _ _ hb, Array.getElem?_eq_getElem (show o + j < (pre ++ (mid ++ post)).toArray.size by rw [List.size_toArray, List.length_append, List.length_append]; omega)]
      rfl) (fun j hj => by rw [Nat.add_zero]; exact frozen_of_row _ _ _ _ _ hb) h1
  simp only [Nat.add_zero] at hst
  obtain ⟨m, rfl⟩ : ∃ m, n = m + 1 := ⟨n - 1, by omega⟩
  simp [Builtin.clear_, run_underlying ht, hv, hst]
theorem wpList_clear_r {w : World} {ops : Array Oper} {rest : List Oper} {o : Oper} {a : Act} {Q : Exit → Act → World → Prop} (hgd : o.guard = none) (d : Operand) (t : TypeId)
    (ho : o.op = .call { callee := .builtin .clear, args := #[d], argTypes := #[t] }) (v : Value) (hd : a.eval d = v) {v' : Value} {w' : World}
    (hr : (Builtin.clear_ #[t] o.type #[v]).run P w = .ok v' w') (h : wpList P ops Q rest (a.put o.dst v') w') : wpList P ops Q (o :: rest) a w :=
  wpList_plain hgd fun _ hK => by
    unfold Oper.wp execOp
    simp only [ho, resolve, invoke, builtin, Sem.run_bind, Sem.run_pure, Result.andThen_ok, List.map_toArray, List.map_cons, List.map_nil, hd, hr]
    exact hK _ _ h
end

theorem dropE_none {l : List En} {t : ByteArray} (h : ∀ j, j < l.length → eqN (l.getD j default).name t = false) : dropE l t = l := by
  unfold dropE
  rw [List.filter_eq_self]
  intro x hx
  obtain ⟨i, hi, rfl⟩ := List.getElem_of_mem hx
  have := h i hi
  rw [List.getD_eq_getElem?_getD, List.getElem?_eq_getElem hi] at this
  simpa using this
theorem getD_take {l : List En} {k j : Nat} (h : j < k) : (l.take k).getD j default = l.getD j default := by
  rw [List.getD_eq_getElem?_getD, List.getElem?_take, if_pos h, List.getD_eq_getElem?_getD]
theorem take_succ_getD {l : List En} {k : Nat} (h : k < l.length) : l.take (k + 1) = l.take k ++ [l.getD k default] := by
  rw [List.take_succ_eq_append_getElem h, List.getD_eq_getElem?_getD, List.getElem?_eq_getElem h]
  rfl
theorem drop_getD {l : List En} {k : Nat} (h : k < l.length) : l.drop k = l.getD k default :: l.drop (k + 1) := by
  rw [← List.getElem_cons_drop h, List.getD_eq_getElem?_getD, List.getElem?_eq_getElem h]
  rfl
theorem dropE_succ {l : List En} {t : ByteArray} {k : Nat} (h : k < l.length) : dropE (l.take (k + 1)) t = if eqN (l.getD k default).name t = true then dropE (l.take k) t else dropE (l.take k) t ++ [l.getD k default] := by
  unfold dropE
  rw [take_succ_getD h, List.filter_append]
  generalize l.getD k default = x
  cases hb : eqN x.name t with
  | true => rw [if_pos rfl, List.filter_cons, hb]; simp
  | false => rw [if_neg (by decide), List.filter_cons, hb]; simp

set_option maxRecDepth 20000 in
set_option maxHeartbeats 4000000 in
theorem delete9 {w : World} {base : Nat} {v : Value} {l : List En} {t : ByteArray} {q : Nat} (hl : l.length ≤ 1000) (hown : w.ownsRow base 27 2 v l.length (enC l)) (hbase : base ≤ w.heap.size)
    (hq : w.cell? ⟨q, 0, none⟩ = some (.string t)) (hne : v.ownBlock ≠ some q) :
    Calls Try.prog 50 #[v, .func (.func 51) #[] #[.pointer (some ⟨q, 0, none⟩)]] w fun e w' => ∃ v', e = .returned v' ∧ w'.ownsRow base 27 2 v' (dropE l t).length (enC (dropE l t)) ∧ Mod (fun p => v.ownBlock = some p) w w' := by
  obtain ⟨i1, hi1, hy0, hy1, hy2⟩ := info_parts Try.infoEntry9
  have HIX := Lib.hid (index9 (holdsE_of_own rfl hown) hl hq)
  obtain ⟨L, hL⟩ : ∃ L, L = l.length := ⟨_, rfl⟩
  have HL := Lib.hid hL
  have hsp := hitE_spec l t L 0 (by omega) (fun j hj => by omega)
  rw [← hL] at hl hown HIX hsp
  have HO := Lib.hid hown
  rcases hsp with ⟨e1, hno⟩ | ⟨i, hiL, e1, hyes, hno⟩
  · have hd : dropE l t = l := dropE_none (by rw [← hL]; exact hno)
    rw [hd, ← hL]
    rw [e1] at HIX
    rcases hown.2 with ⟨rfl, h0⟩ | ⟨b, c, cur, rfl, hbg, hg, hnc, hcm, hcs, htk⟩
    · clear hL hd hno hq hne
      subst h0
      go_enter Try.func50, Try.ntmps50
      go_wp2_with fail
      refine HIX.out.mono ?_
      rintro e w1 ⟨rfl, hb1⟩
      have HB1 := Lib.hid hb1
      clear hb1
      go_wp2
      go_ret
      exact ⟨_, rfl, (mod_of_below HB1.out).own HO.out (fun _ _ h => h), (mod_of_below HB1.out).mono (fun _ _ h => h.elim)⟩
    · clear hL hd hno hq hne hown hg htk
      go_enter Try.func50, Try.ntmps50
      go_wp2_with fail
      refine HIX.out.mono ?_
      rintro e w1 ⟨rfl, hb1⟩
      have HB1 := Lib.hid hb1
      clear hb1
      go_wp2
      go_ret
      exact ⟨_, rfl, (mod_of_below HB1.out).own HO.out (fun _ _ h => h), (mod_of_below HB1.out).mono (fun _ _ h => h.elim)⟩
  · rcases hown.2 with ⟨rfl, h0⟩ | ⟨b, c, cur, rfl, hbg, hg, hnc, hcm, hcs, htk⟩
    · omega
    · obtain ⟨S, hS⟩ : ∃ S, S = cur.toList.drop (L * 2) := ⟨_, rfl⟩
      have hcur : cur = (enC l ++ S).toArray := by rw [← htk, hS, List.take_append_drop, Array.toArray_toList]
      have hSl : S.length = (c - L) * 2 := by rw [hS, List.length_drop, Array.length_toList, hcs, ← Nat.sub_mul]
      rw [hcur] at hg
      have hbq : b ≠ q := fun e => hne (by subst e; rfl)
      have HG := Lib.hid hg
      rw [e1] at HIX
      have HQ := Lib.hid hq
      have hdt : dropE (l.take i) t = l.take i := dropE_none (fun j hj => by
        rw [List.length_take] at hj
        rw [getD_take (by omega)]
        exact hno j (by omega))
      have hdi : dropE (l.take (i + 1)) t = l.take i := by rw [dropE_succ (by omega), if_pos hyes, hdt]
      have HDI := Lib.hid hdi
      have HNO := Lib.hid hno
      have HYES := Lib.hid hyes
      have hne1 : ¬ ((i : Int) = -1) := by omega
      have hne2 : ((i : Int) == -1) = false := beq_eq_false_iff_ne.2 hne1
      clear hS hcur hg hq hdt hdi hno hyes hL htk hown hcs hne HO
      go_enter Try.func50, Try.ntmps50
      go_wp2_with fail
      refine HIX.out.mono ?_
      rintro e w1 ⟨rfl, hb1⟩
      have HM1 : Hid (Mod (fun p => b = p) w w1) := (mod_of_below hb1).mono (fun _ _ h => h.elim)
      have HG1 : Hid (w1.heap[b]? = some (.cells (enC l ++ S).toArray 27 (0, 0))) := (mod_of_below hb1).heap HG.out (fun h => h)
      clear hb1 HIX
      go_wp2_with fail
      go_loopg [5, 6] L (fun gk s5 s6 wr => ∃ (j kn : Nat) (K X : List En), (L ≤ j + gk ∧ j ≤ L) ∧ s6 = .int .i64 j ∧ s5 = .int .i64 kn ∧ kn < j ∧ Hid (K.length = kn) ∧ Hid (X.length = j - kn) ∧ Hid (K = dropE (l.take j) t) ∧ Hid (wr.heap[b]? = some (.cells (enC (K ++ X ++ l.drop j) ++ S).toArray 27 (0, 0))) ∧ Hid (Mod (fun p => b = p) w wr))
      case atStart =>
        refine ⟨i + 1, i, l.take i, [l.getD i default], ⟨by omega, by omega⟩, by go_num, rfl, by omega, ?_, ?_, HDI.out.symm, ?_, HM1.out⟩
        · unfold Hid; rw [List.length_take, ← HL.out]; omega
        · unfold Hid; simp
        · unfold Hid
          rw [← take_succ_getD (by rw [← HL.out]; exact hiL), List.take_append_drop]
          exact HG1.out
      case round =>
        obtain ⟨j, kn, K, X, ⟨hj, hjL⟩, rfl, rfl, hkj, HKL, HXL, HK, HR, HM⟩ := hrel
        by_cases hlt : j < L
        · obtain ⟨R, hR⟩ : ∃ R, R = K ++ X ++ l.drop j := ⟨_, rfl⟩
          have hRl : R.length = L := by rw [hR, List.length_append, List.length_append, List.length_drop, HKL.out, HXL.out, ← HL.out]; omega
          have hRj : R.getD j default = l.getD j default := by
            rw [hR, List.getD_eq_getElem?_getD, List.getElem?_append_right (by rw [List.length_append, HKL.out, HXL.out]; omega), List.getElem?_drop, List.length_append, HKL.out, HXL.out, List.getD_eq_getElem?_getD]
            congr 2
            omega
          obtain ⟨c1, c2⟩ := enC_get R j (by omega)
          rw [hRj] at c1 c2
          have hr := HR.out
          rw [← hR] at hr
          obtain ⟨x, hx⟩ : ∃ x, x = l.getD j default := ⟨_, rfl⟩
          rw [← hx] at c1 c2
          have hRe : (enC R).length = L * 2 := by rw [enC_len, hRl]
          have e1 : wr.cell? ⟨b, j * 2, none⟩ = some (.string x.name) := by
            rw [cell_of_row _ _ _ _ _ _ hr, List.getElem?_toArray, List.getElem?_append_left (by omega)]; exact c1
          have e2 : wr.cell? ⟨b, j * 2 + 1, none⟩ = some (.int .i64 x.ino) := by
            rw [cell_of_row _ _ _ _ _ _ hr, List.getElem?_toArray, List.getElem?_append_left (by omega)]; exact c2
          have HX := Lib.hid hx
          have HRE := Lib.hid hR
          obtain ⟨nm, ino⟩ := x
          simp only at e1 e2
          clear hR hRl hRj c1 c2 hr hx hRe
          go_upto_region 8 with (fail)
          have HM2 : Hid (Mod (fun p => b = p) w (wr.alloc (.cells #[.string nm, .int .i64 ino] 27))) := HM.out.alloc _
          have hbw : b < wr.heap.size := (Array.getElem?_eq_some_iff.1 HR.out).1
          have HR2 : Hid ((wr.alloc (.cells #[.string nm, .int .i64 ino] 27)).heap[b]? = some (.cells (enC (K ++ X ++ l.drop j) ++ S).toArray 27 (0, 0))) := ((Mod.refl nob wr).alloc _).heap HR.out (fun h => h)
          have HBX : Hid ((wr.alloc (.cells #[.string nm, .int .i64 ino] 27)).heap[wr.heap.size]? = some (.cells #[.string nm, .int .i64 ino] 27 (0, 0))) := heap_alloc_new _ _
          obtain ⟨B, hB⟩ : ∃ B, B = wr.heap.size := ⟨_, rfl⟩
          rw [← hB] at HBX hbw ⊢
          have hBb : b ≠ B := by omega
          generalize wr.alloc (.cells #[.string nm, .int .i64 ino] 27) = w2 at *
          clear hB e1 e2 HR HM
          have x0 : w2.cell? ⟨B, 0, none⟩ = some (.string nm) := by rw [cell_of_row _ _ _ _ _ _ HBX.out]; rfl
          have x1 : w2.cell? ⟨B, 1, none⟩ = some (.int .i64 ino) := by rw [cell_of_row _ _ _ _ _ _ HBX.out]; rfl
          have hq2 : w2.cell? ⟨q, 0, none⟩ = some (.string t) := HM2.out.cell HQ.out (fun e => hbq e)
          have HW := Lib.hid (without1_any nm ino t q hq2)
          clear hq2
          obtain ⟨dl, hdl⟩ : ∃ dl, dl = eqN nm t := ⟨_, rfl⟩
          rw [← hdl] at HW
          have HDL := Lib.hid hdl
          have hds := dropE_succ (l := l) (t := t) (k := j) (by rw [← HL.out]; exact hlt)
          rw [← HX.out] at hds
          dsimp only at hds
          rw [← hdl, ← HK.out] at hds
          have HDS := Lib.hid hds
          have hdj := drop_getD (l := l) (k := j) (by rw [← HL.out]; exact hlt)
          rw [← HX.out] at hdj
          have HDJ := Lib.hid hdj
          clear hdl hds hdj
          cases dl with
          | true =>
            go_wp2_with (go_at_call 51; (with_reducible refine HW.out.mono ?_); (rintro e w3 ⟨rfl, hb3⟩))
            have HR3 : Hid (w3.heap[b]? = some (.cells (enC (K ++ (X ++ [⟨nm, ino⟩]) ++ l.drop (j + 1)) ++ S).toArray 27 (0, 0))) := by
              have h := (mod_of_below hb3).heap HR2.out (fun h => h)
              rw [HDJ.out] at h
              unfold Hid
              rw [h]
              congr 4
              simp only [List.append_assoc, List.cons_append, List.nil_append]
            have HM3 : Hid (Mod (fun p => b = p) w w3) := HM2.out.step (mod_of_below hb3) (fun _ h => h.elim)
            clear hb3
            go_roundg (gk - 1)
            case measure => omega
            case rel =>
              refine ⟨j + 1, kn, K, X ++ [(⟨nm, ino⟩ : En)], ⟨by omega, by omega⟩, by go_num, rfl, by omega, HKL.out, ?_, ?_, HR3.out, HM3.out⟩
              · unfold Hid; rw [List.length_append, HXL.out]; simp; omega
              · unfold Hid; rw [HDS.out]; rfl
          | false =>
            obtain ⟨x0, X1, hX⟩ : ∃ x0 X1, X = x0 :: X1 := by
              cases X with
              | nil => exact absurd HXL.out (by simp; omega)
              | cons a r => exact ⟨a, r, rfl⟩
            have hX1 : X1.length + 1 = j - kn := by have := HXL.out; rw [hX] at this; simpa using this
            have hkL : (enC K).length = kn * 2 := by rw [enC_len, HKL.out]
            go_upto_region 9 with (go_at_call 51; (with_reducible refine HW.out.mono ?_); (rintro e w3 ⟨rfl, hb3⟩))
            have hr3 : w3.heap[b]? = some (.cells (enC K ++ ([Value.string x0.name, .int .i64 x0.ino] ++ (enC (X1 ++ l.drop j) ++ S))).toArray 27 (0, 0)) := by
              have h := (mod_of_below hb3).heap HR2.out (fun h => h)
              rw [h, hX]
              congr 3
              rw [List.append_assoc, enC_append, List.append_assoc]
              rfl
            have hbx := (mod_of_below hb3).heap HBX.out (fun h => h)
            have x0' : w3.cell? ⟨B, 0, none⟩ = some (.string nm) := by rw [cell_of_row _ _ _ _ _ _ hbx]; rfl
            have x1' : w3.cell? ⟨B, 1, none⟩ = some (.int .i64 ino) := by rw [cell_of_row _ _ _ _ _ _ hbx]; rfl
            have HTH : Hid (w3.there b (kn * 2) (#[Value.string nm, .int .i64 ino]).size) := by
              intro jj hjj
              have hjj2 : jj < 2 := hjj
              refine ⟨?_, frozen_of_row _ _ _ _ _ hr3⟩
              rw [cell_of_row _ _ _ _ _ _ hr3, Array.getElem?_eq_getElem (show kn * 2 + jj < _ by rw [List.size_toArray, List.length_append, List.length_append, hkL]; simp only [List.length_cons, List.length_nil]; omega)]
              rfl
            have HISZ : Hid ((Try.prog.info? 27).map (·.size) = some (#[Value.string nm, .int .i64 ino]).size) := by unfold Hid; rw [hi1]; simp [hy1]
            have HONE : Hid ((#[Value.string nm, .int .i64 ino]).all (·.oneCell') = true) := all_oneCell_toArray (cs := [Value.string nm, .int .i64 ino]) (fun u hu => by simp only [List.mem_cons, List.not_mem_nil, or_false] at hu; rcases hu with rfl | rfl <;> rfl)
            have hknL : (kn : Int) < (L : Int) := by omega
            have HM3 : Hid (Mod (fun p => b = p) w w3) := HM2.out.step (mod_of_below hb3) (fun _ h => h.elim)
            have hg4 := heap_setCells_mid b 27 [Value.string nm, .int .i64 ino] (enC K) [Value.string x0.name, .int .i64 x0.ino] (enC (X1 ++ l.drop j) ++ S) w3 hr3 rfl
            rw [hkL] at hg4
            have HR4 : Hid ((w3.setCells b (kn * 2) [.string nm, .int .i64 ino]).heap[b]? = some (.cells (enC (K ++ [(⟨nm, ino⟩ : En)] ++ (X1 ++ [(⟨nm, ino⟩ : En)]) ++ l.drop (j + 1)) ++ S).toArray 27 (0, 0))) := by
              unfold Hid
              rw [hg4, HDJ.out]
              congr 3
              simp only [enC_append, List.append_assoc, List.cons_append, List.nil_append]
              have : ∀ r : List En, enC ((⟨nm, ino⟩ : En) :: r) = .string nm :: .int .i64 ino :: enC r := fun r => rfl
              simp only [this, enC_append, List.cons_append, List.append_assoc, List.nil_append]
            have HM4 : Hid (Mod (fun p => b = p) w (w3.setCells b (kn * 2) [.string nm, .int .i64 ino])) := Mod.setCells (D := fun p => b = p) b (.inl rfl) _ _ _ HM3.out
            have HX1 := Lib.hid hX1
            clear hr3 hbx hb3 hg4 hX hX1 hkL x0 x1
            go_upto_region 10 with (with_reducible refine wpList_store_mid (op := ⟨none, _, _, _, _, _⟩) rfl 27 _ _ rfl b (kn * 2) (#[Value.string nm, .int .i64 ino]) rfl rfl HTH.out HISZ.out HONE.out ?_)
            try simp only [Act.put]
            generalize w3.setCells b (kn * 2) [.string nm, .int .i64 ino] = w4 at *
            clear HTH x0' x1'
            go_wp2_with fail
            go_roundg (gk - 1)
            case measure => omega
            case rel =>
              refine ⟨j + 1, kn + 1, K ++ [(⟨nm, ino⟩ : En)], X1 ++ [(⟨nm, ino⟩ : En)], ⟨by omega, by omega⟩, by go_num, by go_num, by omega, ?_, ?_, ?_, HR4.out, HM4.out⟩
              · unfold Hid; rw [List.length_append, HKL.out]; rfl
              · unfold Hid; rw [List.length_append]; have := HX1.out; simp; omega
              · unfold Hid; rw [HDS.out]; rfl
        · obtain rfl : j = L := by omega
          have hnlt : ¬ (j : Int) < (j : Int) := by omega
          have hr : wr.heap[b]? = some (.cells (enC K ++ (enC X ++ S)).toArray 27 (0, 0)) := by
            have h := HR.out
            rw [HL.out, List.drop_length, List.append_nil, enC_append, List.append_assoc] at h
            exact h
          have hkL : (enC K).length = kn * 2 := by rw [enC_len, HKL.out]
          have hxL : (enC X).length = (j - kn) * 2 := by rw [enC_len, HXL.out]
          obtain ⟨z, hz⟩ : ∃ z : Value, z = .agg #[.string ⟨#[]⟩, .int .i64 0] := ⟨_, rfl⟩
          have hzc : z.cells.size = 2 := by rw [hz]; rfl
          have hzv : ∀ w, (zeroValue 27).run Try.prog w = .ok z w := fun w => by rw [hz]; simp [zeroValue, typeInfo, hi1, hy0]
          have hz1 : ∀ u ∈ (Builtin.zeroCells z.cells (j - kn)).toList, u.oneCell' = true := by
            intro u hu
            unfold Builtin.zeroCells at hu
            simp only [Array.toList_map, List.mem_map, Array.toList_range, List.mem_range] at hu
            obtain ⟨a, -, rfl⟩ := hu
            rw [hz]
            have h2 : (Value.agg #[Value.string ⟨#[]⟩, .int .i64 0]).cells.size = 2 := rfl
            rw [h2]
            rcases Nat.mod_two_eq_zero_or_one a with h | h <;> rw [h] <;> rfl
          have HRC : Hid (∀ ty, (Builtin.clear_ #[23] ty #[.slice (some ⟨b, kn * 2, none⟩) (j - kn) (c - kn)]).run Try.prog wr = .ok (.tuple #[]) (wr.setCells b (kn * 2) (Builtin.zeroCells z.cells (j - kn)).toList)) := fun ty => (run_clear_k (P := Try.prog) wr 23 27 ty z 2 Try.underlying23 hzv hzc b (kn * 2) (j - kn) (c - kn) (by omega) (enC K) (enC X) S 27 hr hkL hxL hz1)
          obtain ⟨Z, hZ⟩ : ∃ Z, Z = (Builtin.zeroCells z.cells (j - kn)).toList := ⟨_, rfl⟩
          have hZl : Z.length = (j - kn) * 2 := by rw [hZ, Array.length_toList, zeroCells_len, hzc]
          rw [← hZ] at HRC
          have hg := heap_setCells_mid b 27 Z (enC K) (enC X) S wr hr (by rw [hxL, hZl])
          rw [hkL] at hg
          have HG2 := Lib.hid hg
          have HM2 : Hid (Mod (fun p => b = p) w (wr.setCells b (kn * 2) Z)) := Mod.setCells (D := fun p => b = p) b (.inl rfl) _ _ _ HM.out
          have hck : ¬ (c = kn) := by omega
          have hkj1 : (kn : Int) ≤ (j : Int) := by omega
          have hKE : dropE l t = K := by rw [HK.out, HL.out, List.take_length]
          have HKE := Lib.hid hKE
          have hKl : K.length = kn := HKL.out
          clear hr hxL hz hzc hzv hz1 hZ hg hKE HR HK
          go_wp2_with (with_reducible refine wpList_clear_r (o := ⟨none, _, _, _, _, _⟩) rfl (.tmp 38) 23 rfl (.slice (some ⟨b, kn * 2, none⟩) (j - kn) (c - kn)) rfl (HRC.out _) ?_)
          go_ret
          refine ⟨_, rfl, ?_, HM2.out.mono (fun q _ e => by rw [← e]; rfl)⟩
          rw [HKE.out, hKl]
          refine ⟨by rw [enC_len, hKl], .inr ⟨b, c, _, rfl, hbg, HG2.out, by omega, hcm, ?_, ?_⟩⟩
          · rw [List.size_toArray, List.length_append, List.length_append, hkL, hZl, hSl]; omega
          · show ((enC K ++ (Z ++ S)).take (kn * 2)) = _
            rw [← hkL, List.take_left]
end Go.Proofs.Ytlopdbhjdijlmaa
