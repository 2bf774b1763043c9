/-
  Maps from places to words, as plain functions: laws for the walk. No function of the program.
-/
import Derived.Test.YtfpnmphmngdkdaaApp
import Derived.Test.YtfpnmphmngdkdaaTxM
import Derived.Maps.OwnSet
import Derived.Maps.OwnOps
import Derived.Maps.RangeWalk
import Derived.Maps.Ext
namespace Go.Proofs.Ytfpnmphmngdkdaa
open Go.ChangeShapes Go.WideShapes Go.ChangeAt Go.RowKit Go.Maps Go.WideElems Go.WideAt Go.MapKept Go.ChangeMaps
set_option linter.unusedSimpArgs false
set_option linter.unusedVariables false

/-- How many of the first places have an entry. -/
def cnt (f : Nat → Option Int) : Nat → Nat
  | 0 => 0
  | n + 1 => cnt f n + if (f n).isSome then 1 else 0

def updO (f : Nat → Option Int) (i : Nat) (v : Option Int) : Nat → Option Int := fun k => if k = i then v else f k

theorem cnt_le (f : Nat → Option Int) (n : Nat) : cnt f n ≤ n := by
  induction n with
  | zero => simp [cnt]
  | succ n ih => simp only [cnt]; split <;> omega

theorem cnt_out (f : Nat → Option Int) (i : Nat) (v : Option Int) (n : Nat) (h : n ≤ i) : cnt (updO f i v) n = cnt f n := by
  induction n with
  | zero => rfl
  | succ n ih =>
    simp only [cnt]
    rw [ih (by omega)]
    have : updO f i v n = f n := by unfold updO; rw [if_neg (by omega)]
    rw [this]

theorem cnt_upd (f : Nat → Option Int) (i : Nat) (v : Option Int) (n : Nat) (h : i < n) : cnt (updO f i v) n + (if (f i).isSome then 1 else 0) = cnt f n + (if v.isSome then 1 else 0) := by
  induction n with
  | zero => omega
  | succ n ih =>
    simp only [cnt]
    by_cases e : i = n
    · subst e
      rw [cnt_out _ _ _ _ (Nat.le_refl _)]
      have : updO f i v i = v := by unfold updO; rw [if_pos rfl]
      rw [this]
      omega
    · have := ih (by omega)
      have e2 : updO f i v n = f n := by unfold updO; rw [if_neg (by omega)]
      rw [e2]
      omega

theorem cnt_none (n : Nat) : cnt (fun _ => none) n = 0 := by
  induction n with
  | zero => rfl
  | succ n ih => simp [cnt, ih]

theorem Try.lawInt : Keyed Try.prog 3 := int_keyed Try.underlying3
theorem Try.zeroU64 (w : World) : (zeroValue 41).run Try.prog w = .ok (.int .u64 0) w := by kernel_rfl

/-- Block b is a map of places below n that reads as f. -/
def MapR (w : World) (b n : Nat) (f : Nat → Option Int) : Prop :=
  ∃ D : DataW Unit, w.ownsMap Try.prog 3 (plainElem Try.prog 41) b n D ∧ (∀ k : Int, Maps.has D (.int .i64 k) = true → 0 ≤ k ∧ k < n) ∧ (∀ k : Nat, k < n → Maps.has D (.int .i64 k) = (f k).isSome) ∧
    (∀ (k : Nat) x, f k = some x → D.atKey (.int .i64 k) (.lit (.int .u64 0)) = .lit (.int .u64 x)) ∧ Maps.size D = cnt f n ∧ ∀ k : Nat, n ≤ k → f k = none

theorem ownsMap_tight {H : Type} {w : World} {P : Program} {k : TypeId} {R : Value → Option (DataW H × List MemPlace)} {b n : Nat} {D : DataW H} (h : w.ownsMap P k R b n D) {m : Nat} (hm : Maps.size D ≤ m) : w.ownsMap P k R b m D := by
  obtain ⟨es, clock, hb, F, hs, hD⟩ := h
  refine ⟨es, clock, hb, F, ?_, hD⟩
  rw [hD] at hm
  have : Maps.size (DataW.map ((es.toList.map (rg P k R)).foldr DataW.insert [])) = es.size := by simp [Maps.size, length_sorted]
  omega

theorem MapR.lt {w : World} {b n : Nat} {f : Nat → Option Int} (h : MapR w b n f) : b < w.heap.size := by
  obtain ⟨D, h, _⟩ := h
  exact h.lt

theorem MapR.mod {w w' : World} {b n : Nat} {f : Nat → Option Int} (h : MapR w b n f) {D0 : Nat → Prop} (hm : Mod D0 w w') (hn : ¬ D0 b) : MapR w' b n f := by
  obtain ⟨D, ho, r⟩ := h
  refine ⟨D, ?_, r⟩
  obtain ⟨es, clock, hb, F, hs, hD⟩ := ho
  exact ⟨es, clock, hm.heap hb hn, F, hs, hD⟩

theorem MapR.made (w : World) (n : Nat) : MapR (w.alloc (.map #[] 0)) w.heap.size n (fun _ => none) :=
  ⟨.map [], (World.ownsMap_made w _ _ _).mono (Nat.zero_le _), (fun k h => by simp [Maps.has] at h), fun _ _ => rfl, (fun _ _ h => by cases h), (cnt_none n).symm, fun _ _ => rfl⟩

theorem key_ne {a b : Int} (h : a ≠ b) : (Lit.int .i64 a) ≠ .int .i64 b := fun e => h (by cases e; rfl)

theorem wf_place {k n : Nat} (h : k < n) (hn : n ≤ 10000) : (Lit.int .i64 (k : Int)).wf = true := by
  simp [Lit.wf, IntKind.min, IntKind.max, IntKind.signed, IntKind.bits]
  omega

theorem wf_word {v : Int} (h0 : 0 ≤ v) (h1 : v < 18446744073709551616) : (Lit.int .u64 v).wf = true := by
  simp [Lit.wf, IntKind.min, IntKind.max, IntKind.signed, IntKind.bits]
  omega

theorem MapR.put_data {n : Nat} {f : Nat → Option Int} {D : DataW Unit} (hT : Maps.Tidy D) (hk : ∀ k : Int, Maps.has D (.int .i64 k) = true → 0 ≤ k ∧ k < n) (hf : ∀ k : Nat, k < n → Maps.has D (.int .i64 k) = (f k).isSome)
    (hv : ∀ (k : Nat) x, f k = some x → D.atKey (.int .i64 k) (.lit (.int .u64 0)) = .lit (.int .u64 x)) (hs : Maps.size D = cnt f n) (ho : ∀ k : Nat, n ≤ k → f k = none) (i : Nat) (hi : i < n) (v : Int) :
    let D' := D.put (.int .i64 i) (.lit (.int .u64 v)); let f' := updO f i (some v)
    (∀ k : Int, Maps.has D' (.int .i64 k) = true → 0 ≤ k ∧ k < n) ∧ (∀ k : Nat, k < n → Maps.has D' (.int .i64 k) = (f' k).isSome) ∧
    (∀ (k : Nat) x, f' k = some x → D'.atKey (.int .i64 k) (.lit (.int .u64 0)) = .lit (.int .u64 x)) ∧ Maps.size D' = cnt f' n ∧ ∀ k : Nat, n ≤ k → f' k = none := by
  intro D' f'
  have hkey : WideAt.IsKeyLit (.int .i64 (i : Int)) := trivial
  refine ⟨fun k hk' => ?_, fun k hkn => ?_, fun k x hx => ?_, ?_, fun k hkn => ?_⟩
  · by_cases e : k = i
    · omega
    · rw [Maps.has_put_other (key_ne e)] at hk'
      exact hk k hk'
  · by_cases e : k = i
    · subst e
      rw [Maps.has_put_same hT.isMap hkey]
      simp [f', updO]
    · rw [Maps.has_put_other (key_ne (by omega))]
      simp [f', updO, e, hf k hkn]
  · by_cases e : k = i
    · subst e
      simp [f', updO] at hx
      subst hx
      exact Maps.atKey_put_same hT.isMap hkey _ _
    · simp [f', updO, e] at hx
      rw [Maps.atKey_put_other (key_ne (by omega))]
      exact hv k x hx
  · have h1 := cnt_upd f i (some v) n hi
    have h2 := Maps.size_put hT (k := .int .i64 (i : Int)) (.lit (.int .u64 v))
    rw [hf i hi] at h2
    show Maps.size (D.put _ _) = cnt (updO f i (some v)) n
    rw [h2]
    simp only [Option.isSome_some, if_true] at h1
    split at h1 <;> simp_all <;> omega
  · have : f' k = f k := by simp only [f', updO]; rw [if_neg (by omega)]
    rw [this]
    exact ho k hkn

theorem MapR.del_data {n : Nat} {f : Nat → Option Int} {D : DataW Unit} (hT : Maps.Tidy D) (hk : ∀ k : Int, Maps.has D (.int .i64 k) = true → 0 ≤ k ∧ k < n) (hf : ∀ k : Nat, k < n → Maps.has D (.int .i64 k) = (f k).isSome)
    (hv : ∀ (k : Nat) x, f k = some x → D.atKey (.int .i64 k) (.lit (.int .u64 0)) = .lit (.int .u64 x)) (hs : Maps.size D = cnt f n) (ho : ∀ k : Nat, n ≤ k → f k = none) (i : Nat) (hi : i < n) :
    let D' := D.del (.int .i64 i); let f' := updO f i none
    (∀ k : Int, Maps.has D' (.int .i64 k) = true → 0 ≤ k ∧ k < n) ∧ (∀ k : Nat, k < n → Maps.has D' (.int .i64 k) = (f' k).isSome) ∧
    (∀ (k : Nat) x, f' k = some x → D'.atKey (.int .i64 k) (.lit (.int .u64 0)) = .lit (.int .u64 x)) ∧ Maps.size D' = cnt f' n ∧ ∀ k : Nat, n ≤ k → f' k = none := by
  intro D' f'
  have hkey : WideAt.IsKeyLit (.int .i64 (i : Int)) := trivial
  refine ⟨fun k hk' => ?_, fun k hkn => ?_, fun k x hx => ?_, ?_, fun k hkn => ?_⟩
  · by_cases e : k = i
    · omega
    · rw [Maps.has_del_other (key_ne e)] at hk'
      exact hk k hk'
  · by_cases e : k = i
    · subst e
      rw [Maps.has_del_same]
      simp [f', updO]
    · rw [Maps.has_del_other (key_ne (by omega))]
      simp [f', updO, e, hf k hkn]
  · by_cases e : k = i
    · subst e
      simp [f', updO] at hx
    · simp [f', updO, e] at hx
      rw [Maps.atKey_del_other (key_ne (by omega))]
      exact hv k x hx
  · have h1 := cnt_upd f i none n hi
    have h2 := Maps.size_del hT (k := .int .i64 (i : Int))
    rw [hf i hi] at h2
    show Maps.size (D.del _) = cnt (updO f i none) n
    simp only [Option.isSome_none, Bool.false_eq_true, if_false] at h1
    omega
  · have : f' k = none := by simp only [f', updO]; split; rfl; exact ho k hkn
    exact this

section
variable {ops : Array Oper} {rest : List Oper} {o : Oper} {a : Act} {Q : Exit → Act → World → Prop} {w : World}

/-- 'v, ok := m[k]' -/
theorem wp_lookR (hg : o.guard = none) (m x : Operand) (hop : o.op = Op.lookup 106 m x true) (b n : Nat) (f : Nat → Option Int) (hm : a.eval m = .map (some b)) (h : MapR w b n f)
    (k : Nat) (hk : k < n) (hn : n ≤ 10000) (hx : a.eval x = .int .i64 k) (hK : wpList Try.prog ops Q rest (a.put o.dst (.tuple #[.int .u64 ((f k).getD 0), .bool (f k).isSome])) w) :
    wpList Try.prog ops Q (o :: rest) a w := by
  obtain ⟨D, hown, hkk, hf, hv, hs, ho⟩ := h
  refine wpList_plain hg fun K' hK' => ?_
  have hw0 : (Lit.int .u64 0).wf = true := by decide
  obtain ⟨v, ps, hrun, hr⟩ := hown.look_ok Try.lawInt Try.underlying106 (Try.zeroU64 w) (plainElem_int Try.underlying41 hw0) (keyOf_int_mk Try.underlying3 (wf_place hk hn))
  obtain ⟨c, rfl, hc, hwc⟩ := plainElem_int_inv Try.underlying41 hr
  simp only [Prod.mk.injEq] at hc
  have hcc : c = (f k).getD 0 := by
    cases hfk : f k with
    | none =>
      have h1 : Maps.has D (.int .i64 (k : Int)) = false := by rw [hf k hk, hfk]; rfl
      have h2 := Maps.atKey_of_not_has h1 (.lit (.int .u64 0))
      rw [hc.1] at h2
      cases h2
      rfl
    | some y =>
      have h2 := hv k y hfk
      rw [hc.1] at h2
      cases h2
      rfl
  subst hcc
  rw [hf k hk] at hrun
  unfold Oper.wp
  simp [execOp, hop, hm, hx, hrun, Result.andThen]
  exact hK' _ _ hK

/-- 'm[k] = v' -/
theorem wp_putR (hg : o.guard = none) (m x v : Operand) (hop : o.op = Op.mapUpdate 106 m x v) (b n : Nat) (f : Nat → Option Int) (hm : a.eval m = .map (some b)) (h : MapR w b n f)
    (k : Nat) (hk : k < n) (hn : n ≤ 10000) (hx : a.eval x = .int .i64 k) (y : Int) (hy0 : 0 ≤ y) (hy1 : y < 18446744073709551616) (hv : a.eval v = .int .u64 y)
    (hK : ∀ w', MapR w' b n (updO f k (some y)) → w.grownBy w' (some b) → wpList Try.prog ops Q rest (a.put o.dst undef) w') :
    wpList Try.prog ops Q (o :: rest) a w := by
  obtain ⟨D, hown, hkk, hf, hvv, hs, ho⟩ := h
  have hT := hown.tidy Try.lawInt
  refine wpList_mapUpdate_own _ hg m x v 106 hop 3 41 Try.lawInt Try.underlying106 _ b n _ hm hown (by unfold maxLen; omega) _ _ _ hx hv (keyOf_int_mk Try.underlying3 (wf_place hk hn)) _ [] (plainElem_int Try.underlying41 (wf_word hy0 hy1)) ?_
  intro w1 hown1 hgr1
  obtain ⟨g1, g2, g3, g4, g5⟩ := MapR.put_data hT hkk hf hvv hs ho k hk y
  exact hK w1 ⟨_, ownsMap_tight hown1 (by rw [g4]; exact cnt_le _ _), g1, g2, g3, g4, g5⟩ hgr1

/-- 'delete(m, k)' -/
theorem wp_delR (hg : o.guard = none) (m x : Operand) (hop : o.op = Op.call { callee := Callee.builtin Builtin.delete, args := #[m, x], argTypes := #[106, 3] }) (b n : Nat) (f : Nat → Option Int) (hm : a.eval m = .map (some b)) (h : MapR w b n f)
    (k : Nat) (hk : k < n) (hn : n ≤ 10000) (hx : a.eval x = .int .i64 k)
    (hK : ∀ w', MapR w' b n (updO f k none) → w.grownBy w' (some b) → wpList Try.prog ops Q rest (a.put o.dst (.tuple #[])) w') :
    wpList Try.prog ops Q (o :: rest) a w := by
  obtain ⟨D, hown, hkk, hf, hvv, hs, ho⟩ := h
  have hT := hown.tidy Try.lawInt
  refine wpList_plain hg fun K' hK' => ?_
  obtain ⟨w1, hrun, hown1, hgr1⟩ := hown.drop Try.lawInt Try.underlying106 (keyOf_int_mk Try.underlying3 (wf_place hk hn)) o.type
  obtain ⟨g1, g2, g3, g4, g5⟩ := MapR.del_data hT hkk hf hvv hs ho k hk
  unfold Oper.wp
  simp [execOp, hop, resolve, invoke, builtin, hm, hx, hrun, Result.andThen]
  exact hK' _ _ (hK w1 ⟨_, ownsMap_tight hown1 (by rw [g4]; exact cnt_le _ _), g1, g2, g3, g4, g5⟩ hgr1.grown)

/-- 'len(m)' -/
theorem wp_lenR (hg : o.guard = none) (m : Operand) (hop : o.op = Op.call { callee := Callee.builtin Builtin.len, args := #[m], argTypes := #[106] }) (b n : Nat) (f : Nat → Option Int) (hm : a.eval m = .map (some b)) (h : MapR w b n f)
    (hK : wpList Try.prog ops Q rest (a.put o.dst (.int .i64 (cnt f n : Nat))) w) :
    wpList Try.prog ops Q (o :: rest) a w := by
  obtain ⟨D, hown, hkk, hf, hvv, hs, ho⟩ := h
  refine wpList_plain hg fun K' hK' => ?_
  have hrun := hown.len Try.underlying106 o.type
  rw [hs] at hrun
  unfold Oper.wp
  simp [execOp, hop, resolve, invoke, builtin, hm, hrun, Result.andThen]
  exact hK' _ _ hK

/-- 'clear(m)' -/
theorem wp_clearR (hg : o.guard = none) (m : Operand) (hop : o.op = Op.call { callee := Callee.builtin Builtin.clear, args := #[m], argTypes := #[106] }) (b n : Nat) (f : Nat → Option Int) (hm : a.eval m = .map (some b)) (h : MapR w b n f)
    (hK : ∀ w', MapR w' b n (fun _ => none) → w.grownBy w' (some b) → wpList Try.prog ops Q rest (a.put o.dst (.tuple #[])) w') :
    wpList Try.prog ops Q (o :: rest) a w := by
  obtain ⟨D, ⟨es, clock, hb, F, hs0, hD⟩, hkk, hf, hvv, hs, ho⟩ := h
  refine wpList_plain hg fun K' hK' => ?_
  have hrun : (Builtin.clear_ #[106] o.type #[.map (some b)]).run Try.prog w = .ok (.tuple #[]) (setBlock w b (.map #[] clock)) := by
    simp [Builtin.clear_, run_underlying Try.underlying106, MapKept.run_getObj_map hb, MapKept.run_setObj_map _ hb, Result.andThen, setBlock]
  unfold Oper.wp
  simp [execOp, hop, resolve, invoke, builtin, hm, hrun, Result.andThen]
  refine hK' _ _ (hK _ ⟨.map [], ⟨#[], clock, heap_setBlock_same hb _, ⟨by simp, stamped_empty clock, by simp⟩, Nat.zero_le _, rfl⟩, (fun k h => by simp [Maps.has] at h), fun _ _ => rfl, (fun _ _ h => by cases h), (cnt_none n).symm, fun _ _ => rfl⟩
    ⟨rfl, rfl, rfl, by simp [setBlock], fun i _ hi => heap_setBlock_other hb _ (fun e => hi (by rw [e]))⟩)
end
end Go.Proofs.Ytfpnmphmngdkdaa
