/-
  Maps from places to words, as plain functions: laws for the walk. No function of the program.
  A memory that may last, as plain functions. No program here but the maps' reading.
  A memory that may last, in memory; what its small calls answer: contracts. No condition but the bounds that are typed.
  A memory that may last: a deed, a word loaded, a word stored: contracts. No condition but the bounds that are typed.
  A memory that may last: a word stored: a contract. No condition but the bounds that are typed.
-/
import Derived.Test.YtfpnmphmngdkdaaQApp
import Derived.Test.YtfpnmphmngdkdaaQTxM
import Derived.Maps.OwnSet
import Derived.Maps.OwnOps
import Derived.Maps.RangeWalk
import Derived.Maps.Ext

namespace Go.Proofs.Ytfpnmphmngdkdaa
open Go.ChangeShapes Go.WideShapes Go.ChangeAt Go.RowKit Go.Maps Go.WideElems Go.WideAt Go.MapKept Go.ChangeMaps
set_option linter.unusedSimpArgs false
set_option linter.unusedVariables false

/-- How many of the first places have an entry. -/
def cnt (f : Nat → Option Int) : Nat → Nat
  | 0 => 0
  | n + 1 => cnt f n + if (f n).isSome then 1 else 0

def updO (f : Nat → Option Int) (i : Nat) (v : Option Int) : Nat → Option Int := fun k => if k = i then v else f k

theorem cnt_le (f : Nat → Option Int) (n : Nat) : cnt f n ≤ n := by
  induction n with
  | zero => simp [cnt]
  | succ n ih => simp only [cnt]; split <;> omega

theorem cnt_out (f : Nat → Option Int) (i : Nat) (v : Option Int) (n : Nat) (h : n ≤ i) : cnt (updO f i v) n = cnt f n := by
  induction n with
  | zero => rfl
  | succ n ih =>
    simp only [cnt]
    rw [ih (by omega)]
    have : updO f i v n = f n := by unfold updO; rw [if_neg (by omega)]
    rw [this]

theorem cnt_upd (f : Nat → Option Int) (i : Nat) (v : Option Int) (n : Nat) (h : i < n) : cnt (updO f i v) n + (if (f i).isSome then 1 else 0) = cnt f n + (if v.isSome then 1 else 0) := by
  induction n with
  | zero => omega
  | succ n ih =>
    simp only [cnt]
    by_cases e : i = n
    · subst e
      rw [cnt_out _ _ _ _ (Nat.le_refl _)]
      have : updO f i v i = v := by unfold updO; rw [if_pos rfl]
      rw [this]
      omega
    · have := ih (by omega)
      have e2 : updO f i v n = f n := by unfold updO; rw [if_neg (by omega)]
      rw [e2]
      omega

theorem cnt_none (n : Nat) : cnt (fun _ => none) n = 0 := by
  induction n with
  | zero => rfl
  | succ n ih => simp [cnt, ih]

theorem Try.lawInt : Keyed Try.prog 3 := int_keyed Try.underlying3
theorem Try.zeroU64 (w : World) : (zeroValue 41).run Try.prog w = .ok (.int .u64 0) w := by kernel_rfl

/-- Block b is a map of places below n that reads as f. -/
def MapR (w : World) (b n : Nat) (f : Nat → Option Int) : Prop :=
  ∃ D : DataW Unit, w.ownsMap Try.prog 3 (plainElem Try.prog 41) b n D ∧ (∀ k : Int, Maps.has D (.int .i64 k) = true → 0 ≤ k ∧ k < n) ∧ (∀ k : Nat, k < n → Maps.has D (.int .i64 k) = (f k).isSome) ∧
    (∀ (k : Nat) x, f k = some x → D.atKey (.int .i64 k) (.lit (.int .u64 0)) = .lit (.int .u64 x)) ∧ Maps.size D = cnt f n ∧ ∀ k : Nat, n ≤ k → f k = none

theorem ownsMap_tight {H : Type} {w : World} {P : Program} {k : TypeId} {R : Value → Option (DataW H × List MemPlace)} {b n : Nat} {D : DataW H} (h : w.ownsMap P k R b n D) {m : Nat} (hm : Maps.size D ≤ m) : w.ownsMap P k R b m D := by
  obtain ⟨es, clock, hb, F, hs, hD⟩ := h
  refine ⟨es, clock, hb, F, ?_, hD⟩
  rw [hD] at hm
  have : Maps.size (DataW.map ((es.toList.map (rg P k R)).foldr DataW.insert [])) = es.size := by simp [Maps.size, length_sorted]
  omega

theorem MapR.lt {w : World} {b n : Nat} {f : Nat → Option Int} (h : MapR w b n f) : b < w.heap.size := by
  obtain ⟨D, h, _⟩ := h
  exact h.lt

theorem MapR.mod {w w' : World} {b n : Nat} {f : Nat → Option Int} (h : MapR w b n f) {D0 : Nat → Prop} (hm : Mod D0 w w') (hn : ¬ D0 b) : MapR w' b n f := by
  obtain ⟨D, ho, r⟩ := h
  refine ⟨D, ?_, r⟩
  obtain ⟨es, clock, hb, F, hs, hD⟩ := ho
  exact ⟨es, clock, hm.heap hb hn, F, hs, hD⟩

theorem MapR.made (w : World) (n : Nat) : MapR (w.alloc (.map #[] 0)) w.heap.size n (fun _ => none) :=
  ⟨.map [], (World.ownsMap_made w _ _ _).mono (Nat.zero_le _), (fun k h => by simp [Maps.has] at h), fun _ _ => rfl, (fun _ _ h => by cases h), (cnt_none n).symm, fun _ _ => rfl⟩

theorem key_ne {a b : Int} (h : a ≠ b) : (Lit.int .i64 a) ≠ .int .i64 b := fun e => h (by cases e; rfl)

theorem wf_place {k n : Nat} (h : k < n) (hn : n ≤ 10000) : (Lit.int .i64 (k : Int)).wf = true := by
  simp [Lit.wf, IntKind.min, IntKind.max, IntKind.signed, IntKind.bits]
  omega

theorem wf_word {v : Int} (h0 : 0 ≤ v) (h1 : v < 18446744073709551616) : (Lit.int .u64 v).wf = true := by
  simp [Lit.wf, IntKind.min, IntKind.max, IntKind.signed, IntKind.bits]
  omega

theorem MapR.put_data {n : Nat} {f : Nat → Option Int} {D : DataW Unit} (hT : Maps.Tidy D) (hk : ∀ k : Int, Maps.has D (.int .i64 k) = true → 0 ≤ k ∧ k < n) (hf : ∀ k : Nat, k < n → Maps.has D (.int .i64 k) = (f k).isSome)
    (hv : ∀ (k : Nat) x, f k = some x → D.atKey (.int .i64 k) (.lit (.int .u64 0)) = .lit (.int .u64 x)) (hs : Maps.size D = cnt f n) (ho : ∀ k : Nat, n ≤ k → f k = none) (i : Nat) (hi : i < n) (v : Int) :
    let D' := D.put (.int .i64 i) (.lit (.int .u64 v)); let f' := updO f i (some v)
    (∀ k : Int, Maps.has D' (.int .i64 k) = true → 0 ≤ k ∧ k < n) ∧ (∀ k : Nat, k < n → Maps.has D' (.int .i64 k) = (f' k).isSome) ∧
    (∀ (k : Nat) x, f' k = some x → D'.atKey (.int .i64 k) (.lit (.int .u64 0)) = .lit (.int .u64 x)) ∧ Maps.size D' = cnt f' n ∧ ∀ k : Nat, n ≤ k → f' k = none := by
  intro D' f'
  have hkey : WideAt.IsKeyLit (.int .i64 (i : Int)) := trivial
  refine ⟨fun k hk' => ?_, fun k hkn => ?_, fun k x hx => ?_, ?_, fun k hkn => ?_⟩
  · by_cases e : k = i
    · omega
    · rw [Maps.has_put_other (key_ne e)] at hk'
      exact hk k hk'
  · by_cases e : k = i
    · subst e
      rw [Maps.has_put_same hT.isMap hkey]
      simp [f', updO]
    · rw [Maps.has_put_other (key_ne (by omega))]
      simp [f', updO, e, hf k hkn]
  · by_cases e : k = i
    · subst e
      simp [f', updO] at hx
      subst hx
      exact Maps.atKey_put_same hT.isMap hkey _ _
    · simp [f', updO, e] at hx
      rw [Maps.atKey_put_other (key_ne (by omega))]
      exact hv k x hx
  · have h1 := cnt_upd f i (some v) n hi
    have h2 := Maps.size_put hT (k := .int .i64 (i : Int)) (.lit (.int .u64 v))
    rw [hf i hi] at h2
    show Maps.size (D.put _ _) = cnt (updO f i (some v)) n
    rw [h2]
    simp only [Option.isSome_some, if_true] at h1
    split at h1 <;> simp_all <;> omega
  · have : f' k = f k := by simp only [f', updO]; rw [if_neg (by omega)]
    rw [this]
    exact ho k hkn

theorem MapR.del_data {n : Nat} {f : Nat → Option Int} {D : DataW Unit} (hT : Maps.Tidy D) (hk : ∀ k : Int, Maps.has D (.int .i64 k) = true → 0 ≤ k ∧ k < n) (hf : ∀ k : Nat, k < n → Maps.has D (.int .i64 k) = (f k).isSome)
    (hv : ∀ (k : Nat) x, f k = some x → D.atKey (.int .i64 k) (.lit (.int .u64 0)) = .lit (.int .u64 x)) (hs : Maps.size D = cnt f n) (ho : ∀ k : Nat, n ≤ k → f k = none) (i : Nat) (hi : i < n) :
    let D' := D.del (.int .i64 i); let f' := updO f i none
    (∀ k : Int, Maps.has D' (.int .i64 k) = true → 0 ≤ k ∧ k < n) ∧ (∀ k : Nat, k < n → Maps.has D' (.int .i64 k) = (f' k).isSome) ∧
    (∀ (k : Nat) x, f' k = some x → D'.atKey (.int .i64 k) (.lit (.int .u64 0)) = .lit (.int .u64 x)) ∧ Maps.size D' = cnt f' n ∧ ∀ k : Nat, n ≤ k → f' k = none := by
  intro D' f'
  have hkey : WideAt.IsKeyLit (.int .i64 (i : Int)) := trivial
  refine ⟨fun k hk' => ?_, fun k hkn => ?_, fun k x hx => ?_, ?_, fun k hkn => ?_⟩
  · by_cases e : k = i
    · omega
    · rw [Maps.has_del_other (key_ne e)] at hk'
      exact hk k hk'
  · by_cases e : k = i
    · subst e
      rw [Maps.has_del_same]
      simp [f', updO]
    · rw [Maps.has_del_other (key_ne (by omega))]
      simp [f', updO, e, hf k hkn]
  · by_cases e : k = i
    · subst e
      simp [f', updO] at hx
    · simp [f', updO, e] at hx
      rw [Maps.atKey_del_other (key_ne (by omega))]
      exact hv k x hx
  · have h1 := cnt_upd f i none n hi
    have h2 := Maps.size_del hT (k := .int .i64 (i : Int))
    rw [hf i hi] at h2
    show Maps.size (D.del _) = cnt (updO f i none) n
    simp only [Option.isSome_none, Bool.false_eq_true, if_false] at h1
    omega
  · have : f' k = none := by simp only [f', updO]; split; rfl; exact ho k hkn
    exact this

section
variable {ops : Array Oper} {rest : List Oper} {o : Oper} {a : Act} {Q : Exit → Act → World → Prop} {w : World}

/-- 'v, ok := m[k]' -/
theorem wp_lookR (hg : o.guard = none) (m x : Operand) (hop : o.op = Op.lookup 106 m x true) (b n : Nat) (f : Nat → Option Int) (hm : a.eval m = .map (some b)) (h : MapR w b n f)
    (k : Nat) (hk : k < n) (hn : n ≤ 10000) (hx : a.eval x = .int .i64 k) (hK : wpList Try.prog ops Q rest (a.put o.dst (.tuple #[.int .u64 ((f k).getD 0), .bool (f k).isSome])) w) :
    wpList Try.prog ops Q (o :: rest) a w := by
  obtain ⟨D, hown, hkk, hf, hv, hs, ho⟩ := h
  refine wpList_plain hg fun K' hK' => ?_
  have hw0 : (Lit.int .u64 0).wf = true := by decide
  obtain ⟨v, ps, hrun, hr⟩ := hown.look_ok Try.lawInt Try.underlying106 (Try.zeroU64 w) (plainElem_int Try.underlying41 hw0) (keyOf_int_mk Try.underlying3 (wf_place hk hn))
  obtain ⟨c, rfl, hc, hwc⟩ := plainElem_int_inv Try.underlying41 hr
  simp only [Prod.mk.injEq] at hc
  have hcc : c = (f k).getD 0 := by
    cases hfk : f k with
    | none =>
      have h1 : Maps.has D (.int .i64 (k : Int)) = false := by rw [hf k hk, hfk]; rfl
      have h2 := Maps.atKey_of_not_has h1 (.lit (.int .u64 0))
      rw [hc.1] at h2
      cases h2
      rfl
    | some y =>
      have h2 := hv k y hfk
      rw [hc.1] at h2
      cases h2
      rfl
  subst hcc
  rw [hf k hk] at hrun
  unfold Oper.wp
  simp [execOp, hop, hm, hx, hrun, Result.andThen]
  exact hK' _ _ hK

/-- 'm[k] = v' -/
theorem wp_putR (hg : o.guard = none) (m x v : Operand) (hop : o.op = Op.mapUpdate 106 m x v) (b n : Nat) (f : Nat → Option Int) (hm : a.eval m = .map (some b)) (h : MapR w b n f)
    (k : Nat) (hk : k < n) (hn : n ≤ 10000) (hx : a.eval x = .int .i64 k) (y : Int) (hy0 : 0 ≤ y) (hy1 : y < 18446744073709551616) (hv : a.eval v = .int .u64 y)
    (hK : ∀ w', MapR w' b n (updO f k (some y)) → w.grownBy w' (some b) → wpList Try.prog ops Q rest (a.put o.dst undef) w') :
    wpList Try.prog ops Q (o :: rest) a w := by
  obtain ⟨D, hown, hkk, hf, hvv, hs, ho⟩ := h
  have hT := hown.tidy Try.lawInt
  refine wpList_mapUpdate_own _ hg m x v 106 hop 3 41 Try.lawInt Try.underlying106 _ b n _ hm hown (by unfold maxLen; omega) _ _ _ hx hv (keyOf_int_mk Try.underlying3 (wf_place hk hn)) _ [] (plainElem_int Try.underlying41 (wf_word hy0 hy1)) ?_
  intro w1 hown1 hgr1
  obtain ⟨g1, g2, g3, g4, g5⟩ := MapR.put_data hT hkk hf hvv hs ho k hk y
  exact hK w1 ⟨_, ownsMap_tight hown1 (by rw [g4]; exact cnt_le _ _), g1, g2, g3, g4, g5⟩ hgr1

/-- 'delete(m, k)' -/
theorem wp_delR (hg : o.guard = none) (m x : Operand) (hop : o.op = Op.call { callee := Callee.builtin Builtin.delete, args := #[m, x], argTypes := #[106, 3] }) (b n : Nat) (f : Nat → Option Int) (hm : a.eval m = .map (some b)) (h : MapR w b n f)
    (k : Nat) (hk : k < n) (hn : n ≤ 10000) (hx : a.eval x = .int .i64 k)
    (hK : ∀ w', MapR w' b n (updO f k none) → w.grownBy w' (some b) → wpList Try.prog ops Q rest (a.put o.dst (.tuple #[])) w') :
    wpList Try.prog ops Q (o :: rest) a w := by
  obtain ⟨D, hown, hkk, hf, hvv, hs, ho⟩ := h
  have hT := hown.tidy Try.lawInt
  refine wpList_plain hg fun K' hK' => ?_
  obtain ⟨w1, hrun, hown1, hgr1⟩ := hown.drop Try.lawInt Try.underlying106 (keyOf_int_mk Try.underlying3 (wf_place hk hn)) o.type
  obtain ⟨g1, g2, g3, g4, g5⟩ := MapR.del_data hT hkk hf hvv hs ho k hk
  unfold Oper.wp
  simp [execOp, hop, resolve, invoke, builtin, hm, hx, hrun, Result.andThen]
  exact hK' _ _ (hK w1 ⟨_, ownsMap_tight hown1 (by rw [g4]; exact cnt_le _ _), g1, g2, g3, g4, g5⟩ hgr1.grown)

/-- 'len(m)' -/
theorem wp_lenR (hg : o.guard = none) (m : Operand) (hop : o.op = Op.call { callee := Callee.builtin Builtin.len, args := #[m], argTypes := #[106] }) (b n : Nat) (f : Nat → Option Int) (hm : a.eval m = .map (some b)) (h : MapR w b n f)
    (hK : wpList Try.prog ops Q rest (a.put o.dst (.int .i64 (cnt f n : Nat))) w) :
    wpList Try.prog ops Q (o :: rest) a w := by
  obtain ⟨D, hown, hkk, hf, hvv, hs, ho⟩ := h
  refine wpList_plain hg fun K' hK' => ?_
  have hrun := hown.len Try.underlying106 o.type
  rw [hs] at hrun
  unfold Oper.wp
  simp [execOp, hop, resolve, invoke, builtin, hm, hrun, Result.andThen]
  exact hK' _ _ hK

/-- 'clear(m)' -/
theorem wp_clearR (hg : o.guard = none) (m : Operand) (hop : o.op = Op.call { callee := Callee.builtin Builtin.clear, args := #[m], argTypes := #[106] }) (b n : Nat) (f : Nat → Option Int) (hm : a.eval m = .map (some b)) (h : MapR w b n f)
    (hK : ∀ w', MapR w' b n (fun _ => none) → w.grownBy w' (some b) → wpList Try.prog ops Q rest (a.put o.dst (.tuple #[])) w') :
    wpList Try.prog ops Q (o :: rest) a w := by
  obtain ⟨D, ⟨es, clock, hb, F, hs0, hD⟩, hkk, hf, hvv, hs, ho⟩ := h
  refine wpList_plain hg fun K' hK' => ?_
  have hrun : (Builtin.clear_ #[106] o.type #[.map (some b)]).run Try.prog w = .ok (.tuple #[]) (setBlock w b (.map #[] clock)) := by
    simp [Builtin.clear_, run_underlying Try.underlying106, MapKept.run_getObj_map hb, MapKept.run_setObj_map _ hb, Result.andThen, setBlock]
  unfold Oper.wp
  simp [execOp, hop, resolve, invoke, builtin, hm, hrun, Result.andThen]
  refine hK' _ _ (hK _ ⟨.map [], ⟨#[], clock, heap_setBlock_same hb _, ⟨by simp, stamped_empty clock, by simp⟩, Nat.zero_le _, rfl⟩, (fun k h => by simp [Maps.has] at h), fun _ _ => rfl, (fun _ _ h => by cases h), (cnt_none n).symm, fun _ _ => rfl⟩
    ⟨rfl, rfl, rfl, by simp [setBlock], fun i _ hi => heap_setBlock_other hb _ (fun e => hi (by rw [e]))⟩)
end
end Go.Proofs.Ytfpnmphmngdkdaa

namespace Go.Proofs.Ytfpnmphmngdkdaa
set_option linter.unusedVariables false

structure Pm where
  n : Nat
  now : Nat → Int
  old : Nat → Option Int
  fl : Nat → Option Int
  fuse : Int
  deeds : Nat
  gone : Bool

structure Pm.Ok (S : Pm) : Prop where
  n : S.n ≤ 10000
  now : ∀ i, 0 ≤ S.now i ∧ S.now i < 18446744073709551616
  old : ∀ i x, S.old i = some x → i < S.n ∧ 0 ≤ x ∧ x < 18446744073709551616
  fl : ∀ i x, S.fl i = some x → i < S.n ∧ 0 ≤ x ∧ x < 18446744073709551616
  fuse : -1 ≤ S.fuse ∧ S.fuse ≤ 9223372036854775807

def Pm.may (S : Pm) (i : Int) : Int := if S.gone then 9 else if i < 0 ∨ (S.n : Int) ≤ i then 1 else 0
def Pm.deed (S : Pm) : Pm := { S with deeds := S.deeds + 1, fuse := if 0 < S.fuse then S.fuse - 1 else S.fuse, gone := if 0 < S.fuse then decide (S.fuse - 1 = 0) else S.gone }
def Pm.last (S : Pm) (i : Nat) : Int := (S.old i).getD (S.now i)
def Pm.put (S : Pm) (i : Nat) (v : Int) : Pm := { S with now := upd S.now i v, old := updO S.old i (if S.last i = v then none else some (S.last i)), fl := updO S.fl i none }
def Pm.store (S : Pm) (i v : Int) : Pm := if S.may i = 0 then (S.put i.toNat v).deed else S
def Pm.flushTo (S : Pm) (i k : Nat) : Pm := { S with fl := fun j => if i ≤ j ∧ j < k ∧ (S.old j).isSome then some (S.now j) else S.fl j }
def Pm.flush (S : Pm) (i : Int) : Pm := if S.may i = 0 then (S.flushTo (i.toNat / 8 * 8) (min (i.toNat / 8 * 8 + 8) S.n)).deed else S
def Pm.settle (S : Pm) : Pm := { S with old := fun k => if (S.fl k).isSome then none else S.old k, fl := fun _ => none }
def Pm.fence (S : Pm) : Pm := if S.gone then S else S.settle.deed
def Pm.fenceE (S : Pm) : Int := if S.gone then 9 else 0
def Pm.dirty (S : Pm) : Nat := cnt S.old S.n
def Pm.load (S : Pm) (i : Int) : Int := if S.may i = 0 then S.now i.toNat else 0
def Pm.new (l : List Int) : Pm := ⟨min l.length 10000, fun i => l.getD i 0, fun _ => none, fun _ => none, -1, 0, false⟩
def Pm.blow (S : Pm) (k : Int) : Pm := if S.gone then S else { S with fuse := max k (-1), gone := decide (k = 0) }

theorem Pm.may_ok {S : Pm} {i : Int} (h : S.may i = 0) : 0 ≤ i ∧ i < S.n ∧ S.gone = false := by
  unfold Pm.may at h
  split at h
  · omega
  · rename_i hg
    split at h
    · omega
    · exact ⟨by omega, by omega, by simpa using hg⟩

theorem Pm.Ok.deed {S : Pm} (h : S.Ok) : S.deed.Ok := ⟨h.n, h.now, h.old, h.fl, by have := h.fuse; unfold Pm.deed; simp only; split <;> omega⟩

theorem Pm.Ok.last {S : Pm} (h : S.Ok) (i : Nat) : 0 ≤ S.last i ∧ S.last i < 18446744073709551616 := by
  unfold Pm.last
  cases e : S.old i with
  | none => exact h.now i
  | some x => exact (h.old i x e).2

theorem Pm.Ok.put {S : Pm} (h : S.Ok) (i : Nat) (hi : i < S.n) (v : Int) (h0 : 0 ≤ v) (h1 : v < 18446744073709551616) : (S.put i v).Ok := by
  refine ⟨h.n, fun k => ?_, fun k x hx => ?_, fun k x hx => ?_, h.fuse⟩
  · simp only [Pm.put, upd]
    split
    · exact ⟨h0, h1⟩
    · exact h.now k
  · simp only [Pm.put, updO] at hx
    split at hx
    · rename_i e
      subst e
      split at hx
      · cases hx
      · simp at hx
        subst hx
        exact ⟨hi, h.last k⟩
    · exact h.old k x hx
  · simp only [Pm.put, updO] at hx
    split at hx
    · cases hx
    · exact h.fl k x hx

theorem Pm.Ok.flushTo {S : Pm} (h : S.Ok) (i k : Nat) : (S.flushTo i k).Ok := by
  refine ⟨h.n, h.now, h.old, fun j x hx => ?_, h.fuse⟩
  simp only [Pm.flushTo] at hx
  split at hx
  · rename_i e
    simp at hx
    subst hx
    cases e2 : S.old j with
    | none => simp [e2] at e
    | some y => exact ⟨(h.old j y e2).1, h.now j⟩
  · exact h.fl j x hx

theorem Pm.Ok.settle {S : Pm} (h : S.Ok) : S.settle.Ok :=
  ⟨h.n, h.now, fun i x hx => by simp only [Pm.settle] at hx; split at hx; cases hx; exact h.old i x hx, (fun i x hx => by cases hx), h.fuse⟩

theorem Pm.Ok.store {S : Pm} (h : S.Ok) (i v : Int) (h0 : 0 ≤ v) (h1 : v < 18446744073709551616) : (S.store i v).Ok := by
  unfold Pm.store
  split
  · rename_i e
    have := Pm.may_ok e
    exact (h.put i.toNat (by omega) v h0 h1).deed
  · exact h

theorem Pm.Ok.flush {S : Pm} (h : S.Ok) (i : Int) : (S.flush i).Ok := by
  unfold Pm.flush
  split
  · exact (h.flushTo _ _).deed
  · exact h

theorem Pm.Ok.fence {S : Pm} (h : S.Ok) : S.fence.Ok := by
  unfold Pm.fence
  split
  · exact h
  · exact h.settle.deed

theorem Pm.Ok.new {l : List Int} (h : ∀ z ∈ l, 0 ≤ z ∧ z < 18446744073709551616) : (Pm.new l).Ok := by
  refine ⟨Nat.min_le_right _ _, fun i => ?_, (fun i x hx => by cases hx), (fun i x hx => by cases hx), by simp [Pm.new]⟩
  show 0 ≤ l.getD i 0 ∧ l.getD i 0 < _
  by_cases hi : i < l.length
  · rw [List.getD_eq_getElem?_getD, List.getElem?_eq_getElem hi]
    exact h _ (List.getElem_mem hi)
  · rw [List.getD_eq_getElem?_getD, List.getElem?_eq_none (by omega)]
    simp

theorem Pm.Ok.blow {S : Pm} (h : S.Ok) (k : Int) (hk : k ≤ 9223372036854775807) : (S.blow k).Ok := by
  unfold Pm.blow
  split
  · exact h
  · exact ⟨h.n, h.now, h.old, h.fl, by simp only; omega⟩
end Go.Proofs.Ytfpnmphmngdkdaa

namespace Go.Proofs.Ytfpnmphmngdkdaa
open Go.ChangeShapes Go.WideShapes Go.ChangeAt Go.RowKit
set_option linter.unusedSimpArgs false
set_option linter.unusedVariables false

/-- A slice of n words that is the memory's own: nil, or a block's first cells. -/
def NowR (w : World) (v : Value) (n : Nat) (f : Nat → Int) : Prop :=
  (v = .slice none 0 0 ∧ n = 0) ∨ ∃ g cap cs, v = .slice (some ⟨g, 0, none⟩) n cap ∧ w.heap[g]? = some (.cells cs 41 (0, 0)) ∧ n ≤ cap ∧ cap ≤ maxLen ∧ cs.size = cap ∧ ∀ i, i < n → cs[i]? = some (.int .u64 (f i))

theorem NowR.mod {w w' : World} {v : Value} {n : Nat} {f : Nat → Int} (h : NowR w v n f) {D : Nat → Prop} (hm : Mod D w w') (hd : ∀ g, v.ownBlock = some g → ¬ D g) : NowR w' v n f := by
  rcases h with h | ⟨g, cap, cs, rfl, h1, r⟩
  · exact .inl h
  · exact .inr ⟨g, cap, cs, rfl, hm.heap h1 (hd g rfl), r⟩

theorem NowR.set {w : World} {g n cap : Nat} {f : Nat → Int} (h : NowR w (.slice (some ⟨g, 0, none⟩) n cap) n f) (i : Nat) (v : Int) : NowR (w.setCell ⟨g, i, none⟩ (.int .u64 v)) (.slice (some ⟨g, 0, none⟩) n cap) n (upd f i v) := by
  rcases h with ⟨h, _⟩ | ⟨g', cap', cs, hv, h1, h2, h3, h4, h5⟩
  · cases h
  · simp only [Value.slice.injEq, Option.some.injEq, Addr.mk.injEq, and_true, true_and] at hv
    obtain ⟨rfl, rfl⟩ := hv
    refine .inr ⟨g, cap, _, rfl, heap_setCell_same w g i cs _ _ h1, h2, h3, by simpa using h4, fun k hk => ?_⟩
    simp only [upd]
    by_cases e : k = i
    · subst e
      rw [if_pos rfl, Array.getElem?_setIfInBounds]
      simp only [if_true]
      rw [if_pos (by omega)]
    · rw [if_neg e, Array.getElem?_setIfInBounds]
      rw [if_neg (fun h => e h.symm)]
      exact h5 k hk

theorem NowR.shape {w : World} {v : Value} {n : Nat} {f : Nat → Int} (h : NowR w v n f) : ∃ ao cap, v = .slice ao n cap ∧ n ≤ cap ∧ cap ≤ maxLen := by
  rcases h with ⟨rfl, rfl⟩ | ⟨g, cap, cs, rfl, h1, h2, h3, h4, h5⟩
  · exact ⟨none, 0, rfl, Nat.le_refl _, Nat.zero_le _⟩
  · exact ⟨_, cap, rfl, h2, h3⟩

theorem NowR.pos {w : World} {v : Value} {n : Nat} {f : Nat → Int} (h : NowR w v n f) (hn : 0 < n) : ∃ g cap, v = .slice (some ⟨g, 0, none⟩) n cap ∧ n ≤ cap ∧ cap ≤ maxLen ∧ g < w.heap.size ∧ ∀ i, i < n → w.cell? ⟨g, i, none⟩ = some (.int .u64 (f i)) ∧ w.frozen? ⟨g, i, none⟩ = false := by
  rcases h with ⟨rfl, rfl⟩ | ⟨g, cap, cs, rfl, h1, h2, h3, h4, h5⟩
  · omega
  · exact ⟨g, cap, rfl, h2, h3, lt_of_block h1, fun i hi => ⟨by rw [cell_of_row _ _ _ _ _ _ h1]; exact h5 i hi, frozen_of_row _ _ _ _ _ h1⟩⟩

theorem NowR.of_own {w : World} {base : Nat} {v : Value} {xs : List Int} {n : Nat} (hn : n = xs.length) (h : w.ownsRow base 41 1 v n (u64s xs)) : NowR w v n (fun i => xs.getD i 0) := by
  rcases h.2 with ⟨rfl, h0⟩ | ⟨g, cap, cur, rfl, hb, hg, hnc, hm, hsz, htk⟩
  · exact .inl ⟨by rfl, h0⟩
  · refine .inr ⟨g, cap, cur, rfl, hg, hnc, hm, by simpa using hsz, fun i hi => ?_⟩
    have : (cur.toList.take (n * 1))[i]? = (u64s xs)[i]? := by rw [htk]
    rw [List.getElem?_take, if_pos (by omega)] at this
    have e : (u64s xs)[i]? = some (.int .u64 (xs.getD i 0)) := by
      unfold u64s
      rw [List.getElem?_map, List.getD_eq_getElem?_getD, List.getElem?_eq_getElem (by omega)]
      rfl
    rw [e] at this
    simpa using this

structure PmR (w : World) (p : Nat) (D : Nat → Prop) (S : Pm) (v : Value) (ob fb : Nat) : Prop where
  head : w.heap[p]? = some (.cells #[v, .map (some ob), .map (some fb), .int .i64 S.fuse, .int .i64 S.deeds, .bool S.gone] 108 (0, 0))
  now : NowR w v S.n S.now
  old : MapR w ob S.n S.old
  fl : MapR w fb S.n S.fl
  ok : S.Ok
  po : p ≠ ob
  pf : p ≠ fb
  of : ob ≠ fb
  vb : ∀ g, v.ownBlock = some g → g ≠ p ∧ g ≠ ob ∧ g ≠ fb
  dp : D p
  dob : D ob
  dfb : D fb
  dv : ∀ g, v.ownBlock = some g → D g
  lt : ∀ b, D b → b < w.heap.size

def PmAt (w : World) (p : Nat) (D : Nat → Prop) (S : Pm) : Prop := ∃ v ob fb, PmR w p D S v ob fb

theorem PmAt.ok {w : World} {p : Nat} {D : Nat → Prop} {S : Pm} (h : PmAt w p D S) : S.Ok := by
  obtain ⟨_, _, _, h⟩ := h
  exact h.ok

theorem PmAt.lt {w : World} {p : Nat} {D : Nat → Prop} {S : Pm} (h : PmAt w p D S) : ∀ b, D b → b < w.heap.size := by
  obtain ⟨_, _, _, h⟩ := h
  exact h.lt

theorem PmR.mod {w w' : World} {p : Nat} {D D0 : Nat → Prop} {S : Pm} {v : Value} {ob fb : Nat} (h : PmR w p D S v ob fb) (hm : Mod D0 w w') (hd : ∀ b, D b → ¬ D0 b) : PmR w' p D S v ob fb :=
  ⟨hm.heap h.head (hd _ h.dp), h.now.mod hm (fun g hg => hd _ (h.dv g hg)), h.old.mod hm (hd _ h.dob), h.fl.mod hm (hd _ h.dfb), h.ok, h.po, h.pf, h.of, h.vb, h.dp, h.dob, h.dfb, h.dv, fun b hb => Nat.lt_of_lt_of_le (h.lt b hb) hm.size⟩

theorem PmAt.mod {w w' : World} {p : Nat} {D D0 : Nat → Prop} {S : Pm} (h : PmAt w p D S) (hm : Mod D0 w w') (hd : ∀ b, D b → ¬ D0 b) : PmAt w' p D S := by
  obtain ⟨v, ob, fb, h⟩ := h
  exact ⟨v, ob, fb, h.mod hm hd⟩

theorem PmAt.mono {w : World} {p : Nat} {D D' : Nat → Prop} {S : Pm} (h : PmAt w p D S) (hd : ∀ b, D b → D' b) (hl : ∀ b, D' b → b < w.heap.size) : PmAt w p D' S := by
  obtain ⟨v, ob, fb, h⟩ := h
  exact ⟨v, ob, fb, h.head, h.now, h.old, h.fl, h.ok, h.po, h.pf, h.of, h.vb, hd _ h.dp, hd _ h.dob, hd _ h.dfb, fun g hg => hd _ (h.dv g hg), hl⟩

/-- The head written. -/
theorem PmR.setHead {w w' : World} {p : Nat} {D : Nat → Prop} {S S' : Pm} {v : Value} {ob fb : Nat} (h : PmR w p D S v ob fb) (hm : Mod (fun b => b = p) w w')
    (hh : w'.heap[p]? = some (.cells #[v, .map (some ob), .map (some fb), .int .i64 S'.fuse, .int .i64 S'.deeds, .bool S'.gone] 108 (0, 0)))
    (hn : S'.n = S.n) (h1 : S'.now = S.now) (h2 : S'.old = S.old) (h3 : S'.fl = S.fl) (hok : S'.Ok) : PmR w' p D S' v ob fb :=
  ⟨hh, by rw [hn, h1]; exact h.now.mod hm (fun g hg => (h.vb g hg).1), by rw [hn, h2]; exact h.old.mod hm h.po.symm, by rw [hn, h3]; exact h.fl.mod hm h.pf.symm, hok, h.po, h.pf, h.of, h.vb, h.dp, h.dob, h.dfb, h.dv, fun b hb => Nat.lt_of_lt_of_le (h.lt b hb) hm.size⟩

/-- The one map written. -/
theorem PmR.setOld {w w' : World} {p : Nat} {D : Nat → Prop} {S : Pm} {v : Value} {ob fb : Nat} {f : Nat → Option Int} (h : PmR w p D S v ob fb) (hg : w.grownBy w' (some ob)) (hf : MapR w' ob S.n f) (hok : ({ S with old := f } : Pm).Ok) :
    PmR w' p D { S with old := f } v ob fb := by
  have hm := mod_of_grown hg
  exact ⟨hm.heap h.head (fun e => h.po (by cases e; rfl)), h.now.mod hm (fun g hg e => (h.vb g hg).2.1 (by cases e; rfl)), hf, h.fl.mod hm (fun e => h.of (by cases e; rfl)), hok, h.po, h.pf, h.of, h.vb, h.dp, h.dob, h.dfb, h.dv, fun b hb => Nat.lt_of_lt_of_le (h.lt b hb) hm.size⟩

/-- The other map written. -/
theorem PmR.setFl {w w' : World} {p : Nat} {D : Nat → Prop} {S : Pm} {v : Value} {ob fb : Nat} {f : Nat → Option Int} (h : PmR w p D S v ob fb) (hg : w.grownBy w' (some fb)) (hf : MapR w' fb S.n f) (hok : ({ S with fl := f } : Pm).Ok) :
    PmR w' p D { S with fl := f } v ob fb := by
  have hm := mod_of_grown hg
  exact ⟨hm.heap h.head (fun e => h.pf (by cases e; rfl)), h.now.mod hm (fun g hg e => (h.vb g hg).2.2 (by cases e; rfl)), h.old.mod hm (fun e => h.of (by cases e; rfl)), hf, hok, h.po, h.pf, h.of, h.vb, h.dp, h.dob, h.dfb, h.dv, fun b hb => Nat.lt_of_lt_of_le (h.lt b hb) hm.size⟩

/-- A word written. -/
theorem PmR.setNow {w : World} {p : Nat} {D : Nat → Prop} {S : Pm} {g cap ob fb : Nat} (h : PmR w p D S (.slice (some ⟨g, 0, none⟩) S.n cap) ob fb) (i : Nat) (x : Int) (h0 : 0 ≤ x) (h1 : x < 18446744073709551616) :
    PmR (w.setCell ⟨g, i, none⟩ (.int .u64 x)) p D { S with now := upd S.now i x } (.slice (some ⟨g, 0, none⟩) S.n cap) ob fb := by
  have hb := h.vb g rfl
  have hm : Mod (fun b => b = g) w (w.setCell ⟨g, i, none⟩ (.int .u64 x)) := (Mod.refl (fun b => b = g) w).setCell (a := ⟨g, i, none⟩) (.inl rfl) _
  refine ⟨hm.heap h.head (fun e => hb.1 e.symm), h.now.set i x, h.old.mod hm (fun e => hb.2.1 e.symm), h.fl.mod hm (fun e => hb.2.2 e.symm), ⟨h.ok.n, fun k => ?_, h.ok.old, h.ok.fl, h.ok.fuse⟩, h.po, h.pf, h.of, h.vb, h.dp, h.dob, h.dfb, h.dv, fun b hb => Nat.lt_of_lt_of_le (h.lt b hb) hm.size⟩
  simp only [upd]
  split
  · exact ⟨h0, h1⟩
  · exact h.ok.now k

/-- The cells of the head. -/
theorem PmR.cells {w : World} {p : Nat} {D : Nat → Prop} {S : Pm} {v : Value} {ob fb : Nat} (h : PmR w p D S v ob fb) :
    w.cell? ⟨p, 0, none⟩ = some v ∧ w.cell? ⟨p, 1, none⟩ = some (.map (some ob)) ∧ w.cell? ⟨p, 2, none⟩ = some (.map (some fb)) ∧ w.cell? ⟨p, 3, none⟩ = some (.int .i64 S.fuse) ∧ w.cell? ⟨p, 4, none⟩ = some (.int .i64 S.deeds) ∧ w.cell? ⟨p, 5, none⟩ = some (.bool S.gone) :=
  ⟨by rw [cell_of_row _ _ _ _ _ _ h.head]; rfl, by rw [cell_of_row _ _ _ _ _ _ h.head]; rfl, by rw [cell_of_row _ _ _ _ _ _ h.head]; rfl, by rw [cell_of_row _ _ _ _ _ _ h.head]; rfl, by rw [cell_of_row _ _ _ _ _ _ h.head]; rfl, by rw [cell_of_row _ _ _ _ _ _ h.head]; rfl⟩

theorem PmR.frozen {w : World} {p : Nat} {D : Nat → Prop} {S : Pm} {v : Value} {ob fb : Nat} (h : PmR w p D S v ob fb) (j : Nat) : w.frozen? ⟨p, j, none⟩ = false := frozen_of_row _ _ _ _ _ h.head

theorem pm_len {w : World} {p : Nat} {D : Nat → Prop} {S : Pm} (h : PmAt w p D S) :
    Calls Try.prog 56 #[.pointer (some ⟨p, 0, none⟩)] w fun e w' => e = .returned (.int .i64 S.n) ∧ w = w' := by
  obtain ⟨v, ob, fb, h⟩ := h
  obtain ⟨ao, cap, rfl, -, -⟩ := h.now.shape
  obtain ⟨c0, -, -, -, -, -⟩ := h.cells
  clear h
  go_enter Try.func56, Try.ntmps56
  go_wp2
  go_ret
  exact ⟨rfl, rfl⟩

theorem pm_deeds {w : World} {p : Nat} {D : Nat → Prop} {S : Pm} (h : PmAt w p D S) :
    Calls Try.prog 20 #[.pointer (some ⟨p, 0, none⟩)] w fun e w' => e = .returned (.int .i64 S.deeds) ∧ w = w' := by
  obtain ⟨v, ob, fb, h⟩ := h
  obtain ⟨-, -, -, -, c4, -⟩ := h.cells
  clear h
  go_enter Try.func20, Try.ntmps20
  go_wp2
  go_ret
  exact ⟨rfl, rfl⟩

theorem pm_dirty {w : World} {p : Nat} {D : Nat → Prop} {S : Pm} (h : PmAt w p D S) :
    Calls Try.prog 50 #[.pointer (some ⟨p, 0, none⟩)] w fun e w' => e = .returned (.int .i64 S.dirty) ∧ w = w' := by
  obtain ⟨v, ob, fb, h⟩ := h
  obtain ⟨-, c1, -, -, -, -⟩ := h.cells
  have HO := Lib.hid h.old
  clear h
  go_enter Try.func50, Try.ntmps50
  go_wp2_with (at_len; refine wp_lenR rfl _ rfl ob S.n S.old rfl HO.out ?_)
  go_ret
  exact ⟨rfl, rfl⟩

theorem pm_may {w : World} {p : Nat} {D : Nat → Prop} {S : Pm} (h : PmAt w p D S) (i : Int) :
    Calls Try.prog 106 #[.pointer (some ⟨p, 0, none⟩), .int .i64 i] w fun e w' => e = .returned (.int .i64 (S.may i)) ∧ w = w' := by
  obtain ⟨v, ob, fb, h⟩ := h
  obtain ⟨ao, cap, rfl, -, -⟩ := h.now.shape
  obtain ⟨c0, -, -, -, -, c5⟩ := h.cells
  have hn := h.ok.n
  unfold Pm.may
  generalize S.gone = g at c5 ⊢
  clear h
  cases g with
  | true =>
    go_enter Try.func106, Try.ntmps106
    go_wp2
    go_ret
    exact ⟨rfl, rfl⟩
  | false =>
    simp only [Bool.false_eq_true, if_false]
    rcases (show i < 0 ∨ (0 ≤ i ∧ i < (S.n : Int)) ∨ (0 ≤ i ∧ (S.n : Int) ≤ i) by omega) with h0 | ⟨h0, h1⟩ | ⟨h0, h1⟩
    · rw [if_pos (.inl h0)]
      go_enter Try.func106, Try.ntmps106
      go_wp2
      go_ret
      exact ⟨rfl, rfl⟩
    · rw [if_neg (by omega)]
      go_enter Try.func106, Try.ntmps106
      go_wp2
      go_ret
      exact ⟨rfl, rfl⟩
    · rw [if_pos (.inr h1)]
      go_enter Try.func106, Try.ntmps106
      go_wp2
      go_ret
      exact ⟨rfl, rfl⟩
end Go.Proofs.Ytfpnmphmngdkdaa

namespace Go.Proofs.Ytfpnmphmngdkdaa
open Go.ChangeShapes Go.WideShapes Go.ChangeAt Go.RowKit
set_option linter.unusedSimpArgs false
set_option linter.unusedVariables false

theorem head6_set {w : World} {p : Nat} {a : Array Value} {t : TypeId} (h : w.heap[p]? = some (.cells a t (0, 0))) (k : Nat) (x : Value) : (w.setCell ⟨p, k, none⟩ x).heap[p]? = some (.cells (a.setIfInBounds k x) t (0, 0)) :=
  heap_setCell_same w p k _ t x h

set_option maxHeartbeats 400000 in
theorem pm_deed {w : World} {p : Nat} {D : Nat → Prop} {S : Pm} (h : PmAt w p D S) (hd : S.deeds < 4611686018427387904) :
    Calls Try.prog 107 #[.pointer (some ⟨p, 0, none⟩)] w fun e w' => e = .returned (.tuple #[]) ∧ PmAt w' p D S.deed ∧ Mod D w w' ∧ w'.heap.size = w.heap.size := by
  obtain ⟨v, ob, fb, h⟩ := h
  obtain ⟨-, -, -, c3, c4, c5⟩ := h.cells
  have f3 := h.frozen 3
  have f4 := h.frozen 4
  have f5 := h.frozen 5
  have hfu := h.ok.fuse
  have hsz := lt_of_block h.head
  by_cases hf : 0 < S.fuse
  · have hfin : Hid (S.deed = { S with deeds := S.deeds + 1, fuse := S.fuse - 1, gone := decide (S.fuse - 1 = 0) }) := by
      unfold Hid Pm.deed
      rw [if_pos hf, if_pos hf]
    have HR := Lib.hid h
    have HD : Hid ((decide (S.fuse - 1 = 0)) = (S.fuse - 1 == 0)) := by
      unfold Hid
      rw [Bool.eq_iff_iff]; simp
    generalize hx : S.fuse = x at c3 hfu hf HD hfin
    generalize hy : S.deeds = y at c4 hd hfin
    have HX := Lib.hid hx
    have HY := Lib.hid hy
    clear h hx hy
    go_enter Try.func107, Try.ntmps107
    go_wp2
    go_end0
    have hm : Mod (fun b => b = p) w (((w.setCell ⟨p, 4, none⟩ (.int .i64 (y + 1))).setCell ⟨p, 3, none⟩ (.int .i64 (x - 1))).setCell ⟨p, 5, none⟩ (.bool (x - 1 == 0))) :=
      (((Mod.refl (fun b => b = p) w).setCell (a := ⟨p, 4, none⟩) (.inl rfl) _).setCell (a := ⟨p, 3, none⟩) (.inl rfl) _).setCell (a := ⟨p, 5, none⟩) (.inl rfl) _
    refine ⟨rfl, ⟨v, ob, fb, HR.out.setHead hm ?_ rfl rfl rfl rfl HR.out.ok.deed⟩, hm.mono (fun b _ hb => by subst hb; exact HR.out.dp), by simp [World.setCell]⟩
    rw [head6_set (head6_set (head6_set HR.out.head 4 _) 3 _) 5 _, hfin.out, HD.out, HX.out, HY.out]
    rfl
  · have hfin : Hid (S.deed = { S with deeds := S.deeds + 1 }) := by
      unfold Hid Pm.deed
      rw [if_neg hf, if_neg hf]
    have HR := Lib.hid h
    have hf' : S.fuse ≤ 0 := by omega
    generalize hx : S.fuse = x at c3 hfu hf'
    generalize hy : S.deeds = y at c4 hd hfin
    have HX := Lib.hid hx
    have HY := Lib.hid hy
    clear h hx hy hf
    go_enter Try.func107, Try.ntmps107
    go_wp2
    go_end0
    have hm : Mod (fun b => b = p) w (w.setCell ⟨p, 4, none⟩ (.int .i64 (y + 1))) :=
      (Mod.refl (fun b => b = p) w).setCell (a := ⟨p, 4, none⟩) (.inl rfl) _
    refine ⟨rfl, ⟨v, ob, fb, HR.out.setHead hm ?_ rfl rfl rfl rfl HR.out.ok.deed⟩, hm.mono (fun b _ hb => by subst hb; exact HR.out.dp), by simp [World.setCell]⟩
    rw [head6_set HR.out.head 4 _, hfin.out, HX.out, HY.out]
    rfl

theorem pm_load {w : World} {p : Nat} {D : Nat → Prop} {S : Pm} (h : PmAt w p D S) (i : Int) :
    Calls Try.prog 49 #[.pointer (some ⟨p, 0, none⟩), .int .i64 i] w fun e w' => e = .returned (.tuple #[.int .u64 (S.load i), .int .i64 (S.may i)]) ∧ w = w' := by
  have HM := Lib.hid (pm_may h i)
  have HL := Lib.hid h
  obtain ⟨v, ob, fb, h⟩ := h
  have hl : S.load i = if S.may i = 0 then S.now i.toNat else 0 := rfl
  by_cases hm : S.may i = 0
  · obtain ⟨h0, h1, -⟩ := Pm.may_ok hm
    obtain ⟨n, rfl⟩ := Int.eq_ofNat_of_zero_le h0
    obtain ⟨g, cap, rfl, -, -, -, hc⟩ := h.now.pos (by omega)
    obtain ⟨c0, -, -, -, -, -⟩ := h.cells
    have c1 := (hc n (by omega)).1
    rw [if_pos hm] at hl
    rw [hm] at HM ⊢
    have HLL := Lib.hid hl
    clear h hl hc hm
    go_enter Try.func49, Try.ntmps49
    go_wp2_with (go_at_call 106; refine HM.out.mono ?_; rintro e w' ⟨rfl, rfl⟩)
    go_ret2
    rw [HLL.out]
    exact ⟨rfl, rfl⟩
  · have hne : ((S.may i) != 0) = true := by simpa using hm
    rw [if_neg hm] at hl
    have HLL := Lib.hid hl
    generalize S.may i = m at HM hne ⊢
    clear h hl hm
    go_enter Try.func49, Try.ntmps49
    go_wp2_with (go_at_call 106; refine HM.out.mono ?_; rintro e w' ⟨rfl, rfl⟩)
    go_ret2
    rw [HLL.out]
    exact ⟨rfl, rfl⟩
end Go.Proofs.Ytfpnmphmngdkdaa

namespace Go.Proofs.Ytfpnmphmngdkdaa
open Go.ChangeShapes Go.WideShapes Go.ChangeAt Go.RowKit
set_option linter.unusedSimpArgs false
set_option linter.unusedVariables false

theorem updO_same (f : Nat → Option Int) (n : Nat) (x : Option Int) (h : f n = x) : updO f n x = f := by
  funext k
  unfold updO
  split
  · rename_i e; rw [e, h]
  · rfl

theorem Pm.Ok.setOld {S : Pm} (h : S.Ok) (n : Nat) (hn : n < S.n) (x : Int) (h0 : 0 ≤ x) (h1 : x < 18446744073709551616) : ({ S with old := updO S.old n (some x) } : Pm).Ok := by
  refine ⟨h.n, h.now, fun k y hy => ?_, h.fl, h.fuse⟩
  simp only [updO] at hy
  split at hy
  · rename_i e; subst e; cases hy; exact ⟨hn, h0, h1⟩
  · exact h.old k y hy

theorem Pm.Ok.delOld {S : Pm} (h : S.Ok) (n : Nat) : ({ S with old := updO S.old n none } : Pm).Ok := by
  refine ⟨h.n, h.now, fun k y hy => ?_, h.fl, h.fuse⟩
  simp only [updO] at hy
  split at hy
  · cases hy
  · exact h.old k y hy

theorem Pm.Ok.delFl {S : Pm} (h : S.Ok) (n : Nat) : ({ S with fl := updO S.fl n none } : Pm).Ok := by
  refine ⟨h.n, h.now, h.old, fun k y hy => ?_, h.fuse⟩
  simp only [updO] at hy
  split at hy
  · cases hy
  · exact h.fl k y hy

theorem updO_twice (f : Nat → Option Int) (n : Nat) (x y : Option Int) : updO (updO f n x) n y = updO f n y := by
  funext k
  unfold updO
  split <;> simp_all

theorem Mod.step {D E : Nat → Prop} {a b c : World} (h : Mod D a b) (k : Mod E b c) (he : ∀ x, E x → D x) : Mod D a c :=
  h.trans (k.mono (fun b _ hb => .inl (he b hb)))

def StoreMid (w : World) (p n : Nat) (D : Nat → Prop) (S : Pm) (lv : Value) (wc : World) : Prop :=
  ∃ (l : Int) (v : Value) (ob fb : Nat), lv = .int .u64 l ∧ Hid (l = S.last n) ∧ Hid (PmR wc p D { S with old := updO S.old n (some (S.last n)) } v ob fb) ∧ Hid (Mod D w wc)

set_option maxRecDepth 20000 in
set_option maxHeartbeats 1000000 in
theorem pm_store {w : World} {p : Nat} {D : Nat → Prop} {S : Pm} (h : PmAt w p D S) (hd : S.deeds < 4611686018427387904) (i x : Int) (hx0 : 0 ≤ x) (hx1 : x < 18446744073709551616) :
    Calls Try.prog 45 #[.pointer (some ⟨p, 0, none⟩), .int .i64 i, .int .u64 x] w fun e w' => e = .returned (.int .i64 (S.may i)) ∧ PmAt w' p D (S.store i x) ∧ Mod D w w' := by
  have HM := Lib.hid (pm_may h i)
  have HL := Lib.hid h
  have hl : S.store i x = if S.may i = 0 then (S.put i.toNat x).deed else S := rfl
  by_cases hm : S.may i = 0
  · obtain ⟨h0, h1, -⟩ := Pm.may_ok hm
    obtain ⟨n, rfl⟩ := Int.eq_ofNat_of_zero_le h0
    have hn : n < S.n := by omega
    have hN := h.ok.n
    rw [if_pos hm] at hl
    rw [hm] at HM ⊢
    have HLL := Lib.hid hl
    obtain ⟨v, ob, fb, h⟩ := h
    obtain ⟨g, cap, rfl, -, -, hgs, hc⟩ := h.now.pos (by omega)
    obtain ⟨c0, c1, -, -, -, -⟩ := h.cells
    have d1 := (hc n hn).1
    have HR := Lib.hid h
    have hwd := h.ok.now n
    clear h hl hc hm
    go_enter Try.func45, Try.ntmps45
    go_upto_if 26 with (first | (go_at_call 106; refine HM.out.mono ?_; rintro e w' ⟨rfl, rfl⟩) | (at_lookup; refine wp_lookR rfl _ _ rfl ob S.n S.old rfl HR.out.old n hn hN rfl ?_))
    have hlast : S.last n = (S.old n).getD (S.now n) := rfl
    have HLAST := Lib.hid hlast
    have hlok := HR.out.ok.last n
    clear hlast
    go_cut [8, 9] (fun lv _ wc => StoreMid w p n D S lv wc)
    case first =>
      cases ho : S.old n with
      | none =>
        have HO := Lib.hid ho
        clear ho
        generalize hy : S.now n = y at d1 hwd HLAST
        have HY := Lib.hid hy
        clear hy
        go_wp2_with (at_mapUpdate; refine wp_putR rfl _ _ _ rfl ob S.n S.old rfl HR.out.old n hn hN rfl y hwd.1 hwd.2 rfl ?_; intro w1 hm1 hg1)
        go_meet
        case rel =>
          have hly : S.last n = y := by rw [HLAST.out, HO.out]; rfl
          exact ⟨y, _, ob, fb, rfl, hly.symm, by rw [hly]; exact HR.out.setOld hg1 hm1 (HR.out.ok.setOld n hn y hwd.1 hwd.2), (mod_of_grown hg1).mono (fun b _ hb => by cases hb; exact HR.out.dob)⟩
      | some z =>
        have HO := Lib.hid ho
        clear ho
        go_wp2_with fail
        go_meet
        case rel =>
          have hly : S.last n = z := by rw [HLAST.out, HO.out]; rfl
          have he : updO S.old n (some z) = S.old := updO_same _ _ _ HO.out
          exact ⟨z, _, ob, fb, rfl, hly.symm, by rw [hly, he]; exact HR.out, Mod.refl _ _⟩
    case rest =>
      clear HR c0 c1 d1 hgs
      obtain ⟨l, v2, ob2, fb2, rfl, hll, HRC, HMC⟩ := hcut
      rw [← hll.out] at hlok
      obtain ⟨g2, cap2, rfl, -, -, hgs, hc⟩ := HRC.out.now.pos (show 0 < S.n by omega)
      obtain ⟨c0, c1, c2, -, -, -⟩ := HRC.out.cells
      have d1 := (hc n hn).1
      have f1 := (hc n hn).2
      have hgp : ¬ g2 = p := (HRC.out.vb g2 rfl).1
      have hpg : ¬ p = g2 := fun e => hgp e.symm
      have HRD := Lib.hid (HRC.out.setNow n x hx0 hx1)
      simp only at c0 c1 c2 d1
      clear hc
      have hfin : Hid (∀ T : Pm, T = { S with now := upd S.now n x, old := updO S.old n (if l = x then none else some l), fl := updO S.fl n none } → T.deed = S.store (n : Int) x) := by
        intro T hT
        rw [HLL.out, hT, hll.out]
        rfl
      have armF : True := trivial
      by_cases hlx : l = x
      · have hbq : (l == x) = true := by simpa using hlx
        have HLX := Lib.hid hlx
        clear hlx
        go_wp2_with (first
          | (at_delete; refine wp_delR rfl (.tmp 50) (.tmp 51) rfl fb2 S.n S.fl rfl HRD.out.fl n hn hN rfl ?_; intro w3 hm3 hg3; have HR3 := Lib.hid (HRD.out.setFl hg3 hm3 (HRD.out.ok.delFl n)); have e1 := HR3.out.cells.2.1; have HM3 := Lib.hid (mod_of_grown hg3); clear hm3 hg3)
          | (at_delete; refine wp_delR rfl (.tmp 58) (.tmp 59) rfl ob2 S.n _ rfl HR3.out.old n hn hN rfl ?_; intro w4 hm4 hg4; have HR4 := Lib.hid (HR3.out.setOld hg4 hm4 (HR3.out.ok.delOld n)); have HM4 := Lib.hid (mod_of_grown hg4); clear hm4 hg4)
          | (go_at_call 107; refine (pm_deed ⟨_, _, _, HR4.out⟩ hd).mono ?_; rintro e w5 ⟨rfl, h5, m5, -⟩))
        go_ret
        refine ⟨rfl, ?_, (((HMC.out.setCell (a := ⟨g2, n, none⟩) (.inl (HRC.out.dv g2 rfl)) _).step HM3.out (fun b hb => by cases hb; exact HRC.out.dfb)).step HM4.out (fun b hb => by cases hb; exact HRC.out.dob)).step m5 (fun _ h => h)⟩
        have e := hfin.out _ rfl
        rw [if_pos HLX.out] at e
        rw [← e]
        simp only [updO_twice] at h5
        exact h5
      · have hbq : (l == x) = false := by simpa using hlx
        have HLX := Lib.hid hlx
        clear hlx
        go_wp2_with (first
          | (at_delete; refine wp_delR rfl (.tmp 50) (.tmp 51) rfl fb2 S.n S.fl rfl HRD.out.fl n hn hN rfl ?_; intro w3 hm3 hg3; have HR3 := Lib.hid (HRD.out.setFl hg3 hm3 (HRD.out.ok.delFl n)); have e1 := HR3.out.cells.2.1; have HM3 := Lib.hid (mod_of_grown hg3); clear hm3 hg3)
          | (go_at_call 107; refine (pm_deed ⟨_, _, _, HR3.out⟩ hd).mono ?_; rintro e w5 ⟨rfl, h5, m5, -⟩))
        go_ret
        refine ⟨rfl, ?_, ((HMC.out.setCell (a := ⟨g2, n, none⟩) (.inl (HRC.out.dv g2 rfl)) _).step HM3.out (fun b hb => by cases hb; exact HRC.out.dfb)).step m5 (fun _ h => h)⟩
        have e := hfin.out _ rfl
        rw [if_neg HLX.out] at e
        rw [← e]
        rw [← hll.out] at h5
        exact h5
  · have hne : ((S.may i) != 0) = true := by simpa using hm
    rw [if_neg hm] at hl
    have HLL := Lib.hid hl
    generalize S.may i = m at HM hne ⊢
    clear h hl hm
    go_enter Try.func45, Try.ntmps45
    go_wp2_with (go_at_call 106; refine HM.out.mono ?_; rintro e w' ⟨rfl, rfl⟩)
    go_ret
    rw [HLL.out]
    exact ⟨rfl, HL.out, Mod.refl _ _⟩
end Go.Proofs.Ytfpnmphmngdkdaa
