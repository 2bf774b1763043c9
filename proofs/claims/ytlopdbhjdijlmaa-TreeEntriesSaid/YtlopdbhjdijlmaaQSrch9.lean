/-
  tree.search and tree.Find: contracts. No condition but the bounds that are typed.
-/
import Derived.Test.YtlopdbhjdijlmaaQBl9
import Derived.Lib.Bytealg
import Derived.Laws.Externs

namespace Go.Proofs.Ytlopdbhjdijlmaa
open Go.ChangeShapes Go.WideShapes Go.ChangeAt Go.RowKit
set_option linter.unusedSimpArgs false
set_option linter.unusedVariables false

theorem cmpB_spec : ∀ a b : List UInt8, (Lib.compareBytes a b < 0 ↔ Op.bytesLess a b = true) ∧ (Lib.compareBytes a b = 0 ↔ a = b) ∧ -1 ≤ Lib.compareBytes a b ∧ Lib.compareBytes a b ≤ 1
  | [], [] => by simp [Lib.compareBytes, Op.bytesLess]
  | [], _ :: _ => by simp [Lib.compareBytes, Op.bytesLess]
  | _ :: _, [] => by simp [Lib.compareBytes, Op.bytesLess]
  | a :: x, b :: y => by
    obtain ⟨h1, h2, h3, h4⟩ := cmpB_spec x y
    unfold Lib.compareBytes
    rw [Op.bytesLess]
    by_cases hab : a < b
    · have hne : a ≠ b := fun e => by subst e; exact absurd hab (UInt8.lt_irrefl a)
      simp [hab, hne]
    · by_cases hba : b < a
      · have hne : a ≠ b := fun e => by subst e; exact absurd hba (UInt8.lt_irrefl a)
        simp [hab, hba, hne]
      · have he : a = b := UInt8.le_antisymm (UInt8.not_lt.1 hba) (UInt8.not_lt.1 hab)
        subst he
        simp [hab, h1, h2, h3, h4]

/-- How a name stands to another one: less than 0, 0, more. -/
def cmpN (a b : ByteArray) : Int := Lib.compareBytes a.data.toList b.data.toList
theorem cmpN_rng (a b : ByteArray) : -1 ≤ cmpN a b ∧ cmpN a b ≤ 1 := (cmpB_spec _ _).2.2
theorem cmpN_eq (a b : ByteArray) : cmpN a b = 0 ↔ a = b := by
  unfold cmpN
  rw [(cmpB_spec _ _).2.1]
  constructor
  · intro h
    cases a; cases b
    simp at h
    simp [h]
  · intro h; rw [h]
theorem data_toL (a : ByteArray) : a.toList = a.data.toList := ByteArray.toList_eq a
theorem cmpN_lt (y : En) (t : ByteArray) (i : Int) : cmpN y.name t < 0 ↔ ltE y ⟨t, i⟩ = true := by
  unfold cmpN ltE
  rw [(cmpB_spec _ _).1, data_toL, data_toL]

/-- Entries whose names ascend. -/
def SortE (l : List En) : Prop := ∀ i j, i < j → j < l.length → ltE (l.getD i default) (l.getD j default) = true
/-- Where a name is, or would be. -/
def lowE (l : List En) (t : ByteArray) : Nat := insK l ⟨t, 0⟩
def hasE (l : List En) (t : ByteArray) : Bool := decide (lowE l t < l.length) && decide (cmpN (l.getD (lowE l t) default).name t = 0)

set_option maxRecDepth 100000 in
theorem compare_native (a b : ByteArray) (w : World) : Calls Try.prog 108 #[.string a, .string b] w fun e w' => e = .returned (.int .i64 (cmpN a b)) ∧ w = w' := by
  go_enter Try.func108, Try.ntmps108
  go_wp2
  rw [run_callFunc_extern Try.func128 (by kernel_rfl) (by kernel_rfl) (by kernel_rfl) (e := Extern.BytealgCompare.compare) (by kernel_rfl), Lib.run_compareString]
  simp only [Result.andThen]
  rw [Oper.upon_value]
  go_wp2
  go_ret
  exact ⟨rfl, rfl⟩
theorem compare_any (a b : ByteArray) (w : World) : Calls Try.prog 81 #[.string a, .string b] w fun e w' => e = .returned (.int .i64 (cmpN a b)) ∧ w = w' := by
  have HC := Lib.hid (compare_native a b w)
  generalize cmpN a b = c at *
  go_enter Try.func81, Try.ntmps81
  go_wp2_with fail
  refine HC.out.mono ?_
  rintro e w' ⟨rfl, rfl⟩
  go_wp2
  go_ret
  exact ⟨rfl, rfl⟩
theorem search1_any (nm : ByteArray) (ino : Int) (t : ByteArray) (w : World) : Calls Try.prog 80 #[.agg #[.string nm, .int .i64 ino], .string t] w fun e w' => e = .returned (.int .i64 (cmpN nm t)) ∧ Below w.heap.size w w' := by
  have HC := fun w => Lib.hid (compare_any nm t w)
  generalize cmpN nm t = c at *
  go_enter Try.func80, Try.ntmps80
  go_wp2_with fail
  refine (HC _).out.mono ?_
  rintro e w' ⟨rfl, rfl⟩
  go_wp2
  go_ret
  exact ⟨rfl, (Below.refl _ _).alloc (Nat.le_refl _) _⟩

theorem low_eq {l : List En} {t : ByteArray} {k : Nat} (hk : k ≤ l.length) (h1 : ∀ j, j < k → cmpN (l.getD j default).name t < 0) (h2 : ∀ j, k ≤ j → j < l.length → ¬ cmpN (l.getD j default).name t < 0) : lowE l t = k :=
  insK_eq _ _ _ hk (fun j hj => (cmpN_lt _ _ _).1 (h1 j hj)) (fun hk2 => by
    have := h2 k (Nat.le_refl _) hk2
    rw [cmpN_lt _ _ 0] at this
    simpa using this)
theorem sort_cmp {l : List En} (h : SortE l) {i j : Nat} (hij : i ≤ j) (hj : j < l.length) (t : ByteArray) (hc : cmpN (l.getD j default).name t < 0) : cmpN (l.getD i default).name t < 0 := by
  rcases Nat.lt_or_ge i j with h1 | h1
  · rw [cmpN_lt _ _ 0] at hc ⊢
    exact blq_trans (h i j h1 hj) hc
  · obtain rfl : i = j := by omega
    exact hc

set_option maxRecDepth 20000 in
set_option maxHeartbeats 2000000 in
theorem bsearch_any {w : World} {lv : Value} {l : List En} (t : ByteArray) (hl : HoldsE w lv l) (hb : l.length ≤ 1000000) (hs : SortE l) :
    Calls Try.prog 79 #[lv, .string t, .func (.func 80) #[] #[]] w fun e w' => e = .returned (.tuple #[.int .i64 (lowE l t : Nat), .bool (hasE l t)]) ∧ Below w.heap.size w w' := by
  have HL := Lib.hid hl
  have HS := Lib.hid hs
  obtain ⟨ao, c, rfl, hlc, hcm, -⟩ := hl
  obtain ⟨n, hn⟩ : ∃ n, n = l.length := ⟨_, rfl⟩
  rw [← hn] at HL hlc hb ⊢
  have HN := Lib.hid hn
  have hcell : Hid (∀ wr, Below w.heap.size w wr → ∀ j, j < n → ∃ g o, ao = some ⟨g, o, none⟩ ∧ wr.cell? ⟨g, o + j * 2, none⟩ = some (.string (l.getD j default).name) ∧ wr.cell? ⟨g, o + j * 2 + 1, none⟩ = some (.int .i64 (l.getD j default).ino)) := by
    intro wr hm j hj
    obtain ⟨ao', c', e, -, -, -, h3⟩ := HL.out.below hm
    rw [← hn] at e h3
    simp only [Value.slice.injEq] at e
    obtain ⟨rfl, -, rfl⟩ := e
    exact h3 j hj
  unfold maxLen at hcm
  obtain ⟨K, hK⟩ : ∃ K, K = lowE l t := ⟨_, rfl⟩
  obtain ⟨F, hF⟩ : ∃ F, F = hasE l t := ⟨_, rfl⟩
  have hF2 : F = (decide (K < n) && decide (cmpN (l.getD K default).name t = 0)) := by rw [hF, hK, hn]; rfl
  rw [← hK, ← hF]
  have HK := Lib.hid hK
  have HF := Lib.hid hF2
  clear hn hK hF hF2 hs
  go_enter Try.func79, Try.ntmps79
  go_wp2_with fail
  go_loopg [9, 10] n (fun gk s9 s10 wr => ∃ lo hi : Nat, s9 = .int .i64 lo ∧ s10 = .int .i64 hi ∧ lo ≤ hi ∧ hi ≤ n ∧ hi - lo ≤ gk ∧ Hid (Below w.heap.size w wr) ∧ Hid (∀ j, j < lo → cmpN (l.getD j default).name t < 0) ∧ Hid (∀ j, hi ≤ j → j < n → 0 ≤ cmpN (l.getD j default).name t))
  case atStart => exact ⟨0, n, rfl, rfl, Nat.zero_le _, Nat.le_refl _, by omega, Below.refl _ _, (fun j hj => by omega), (fun j h1 h2 => by omega)⟩
  case round =>
    obtain ⟨lo, hi, rfl, rfl, hlh, hin, hg, HB, H1, H2⟩ := hrel
    by_cases hlt : lo < hi
    · obtain ⟨h, hh⟩ : ∃ h, h = (lo + hi) / 2 := ⟨_, rfl⟩
      have hlh2 : lo ≤ h ∧ h < hi := by omega
      have hhi : ((lo : Int) + (hi : Int)) / 2 = (h : Int) := by omega
      obtain ⟨g, o, rfl, e1, e2⟩ := hcell.out wr HB.out h (by omega)
      have HH := Lib.hid hh
      clear hh
      obtain ⟨ym, hym⟩ : ∃ ym, ym = (l.getD h default).name := ⟨_, rfl⟩
      generalize (l.getD h default).ino = yi at *
      rw [← hym] at e1
      have HC := fun w => Lib.hid (search1_any ym yi t w)
      have hr := cmpN_rng ym t
      have HY := Lib.hid hym
      clear hym
      obtain ⟨cv, hcv⟩ : ∃ cv, cv = cmpN ym t := ⟨_, rfl⟩
      rw [← hcv] at HC hr
      have HV := Lib.hid hcv
      clear hcv
      obtain ⟨hr1, hr2⟩ := hr
      by_cases hneg : cv < 0
      · go_wp2_with fail
        refine (HC _).out.mono ?_
        rintro e w2 ⟨rfl, hb2⟩
        have HB2 : Hid (Below w.heap.size w w2) := HB.out.trans (hb2.mono HB.out.size)
        clear hb2
        go_wp2_with fail
        go_roundg (hi - (h + 1))
        case measure => omega
        case rel =>
          refine ⟨h + 1, hi, by go_num, rfl, by omega, hin, Nat.le_refl _, HB2, fun j hj => ?_, H2.out⟩
          exact sort_cmp HS.out (show j ≤ h by omega) (by have := HN.out; omega) t (by rw [← HY.out, ← HV.out]; exact hneg)
      · go_wp2_with fail
        refine (HC _).out.mono ?_
        rintro e w2 ⟨rfl, hb2⟩
        have HB2 : Hid (Below w.heap.size w w2) := HB.out.trans (hb2.mono HB.out.size)
        clear hb2
        go_wp2_with fail
        go_roundg (h - lo)
        case measure => omega
        case rel =>
          refine ⟨lo, h, rfl, by go_num, by omega, by omega, Nat.le_refl _, HB2, H1.out, (fun j h1 h2 => Int.not_lt.1 (fun hc => absurd hneg (Int.not_le.2 (by rw [HV.out, HY.out]; exact sort_cmp HS.out h1 (by have := HN.out; omega) t hc))) : ∀ j, h ≤ j → j < n → 0 ≤ cmpN (l.getD j default).name t)⟩
    · obtain rfl : hi = lo := by omega
      have hke : K = hi := by rw [HK.out]; exact low_eq (by have := HN.out; omega) H1.out (fun j h1 h2 => Int.not_lt.2 (H2.out j h1 (by have := HN.out; omega)))
      by_cases hn2 : hi < n
      · have hni : (hi : Int) < (n : Int) := by omega
        obtain ⟨g, o, rfl, e1, e2⟩ := hcell.out wr HB.out hi hn2
        obtain ⟨ym, hym⟩ : ∃ ym, ym = (l.getD hi default).name := ⟨_, rfl⟩
        generalize (l.getD hi default).ino = yi at *
        rw [← hym] at e1
        have HC := fun w => Lib.hid (search1_any ym yi t w)
        have hff : F = decide (cmpN ym t = 0) := by rw [HF.out, hke, ← hym, decide_eq_true hn2, Bool.true_and]
        generalize cmpN ym t = cv at HC hff
        have HFF := Lib.hid hff
        have HKE := Lib.hid hke
        clear hff hke hym
        by_cases hz : cv = 0
        · go_wp2_with fail
          refine (HC _).out.mono ?_
          rintro e w2 ⟨rfl, hb2⟩
          have HB2 : Hid (Below w.heap.size w w2) := HB.out.trans (hb2.mono HB.out.size)
          clear hb2
          go_wp2_with fail
          go_ret2
          rw [HFF.out, HKE.out, decide_eq_true hz]
          exact ⟨rfl, HB2.out⟩
        · go_wp2_with fail
          refine (HC _).out.mono ?_
          rintro e w2 ⟨rfl, hb2⟩
          have HB2 : Hid (Below w.heap.size w w2) := HB.out.trans (hb2.mono HB.out.size)
          clear hb2
          go_wp2_with fail
          go_ret2
          rw [HFF.out, HKE.out, decide_eq_false hz]
          have hzb : (cv == 0) = false := by simpa using hz
          refine ⟨?_, HB2.out⟩
          show Ending.returned (.tuple #[.int .i64 hi, .bool (cv == 0)]) = _
          rw [hzb]
      · have hni : ¬ (hi : Int) < (n : Int) := by omega
        have hff : F = false := by rw [HF.out, hke, decide_eq_false hn2, Bool.false_and]
        have HFF := Lib.hid hff
        have HKE := Lib.hid hke
        clear hff hke
        go_wp2_with fail
        go_ret2
        rw [HFF.out, HKE.out]
        exact ⟨rfl, HB.out⟩

theorem search_any {w : World} {lv : Value} {l : List En} (t : ByteArray) (hl : HoldsE w lv l) (hb : l.length ≤ 1000000) (hs : SortE l) :
    Calls Try.prog 47 #[lv, .string t] w fun e w' => e = .returned (.tuple #[.int .i64 (lowE l t : Nat), .bool (hasE l t)]) ∧ Below w.heap.size w w' := by
  have HC := Lib.hid (bsearch_any t hl hb hs)
  obtain ⟨ao, c, rfl, -, -, -⟩ := hl
  generalize lowE l t = k at *
  generalize hasE l t = f at *
  go_enter Try.func47, Try.ntmps47
  go_wp2_with fail
  refine HC.out.mono ?_
  rintro e w' ⟨rfl, hb⟩
  have HB := Lib.hid hb
  clear hb
  go_wp2
  go_ret2
  exact ⟨rfl, HB.out⟩
end Go.Proofs.Ytlopdbhjdijlmaa
