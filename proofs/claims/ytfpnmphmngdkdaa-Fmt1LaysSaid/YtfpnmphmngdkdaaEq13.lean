/-
  Two arrays of thirteen numbers compared. No function of the program, no condition.
-/
import Derived.Test.YtfpnmphmngdkdaaIno
namespace Go.Proofs.Ytfpnmphmngdkdaa
open Go.ChangeShapes Go.WideShapes Go.ChangeAt Go.RowKit
set_option linter.unusedSimpArgs false
set_option linter.unusedVariables false

section
variable {P : Program}

theorem part_int {t : TypeId} (hu : P.underlying t = some (.int .i64)) (hs : (P.info? t).map (·.size) = some 1) (cs : Array Value) (i : Nat) (x : Int) (h : cs[i]? = some (.int .i64 x)) (w : World) :
    (part t cs i).run P w = .ok (.int .i64 x) w := by
  obtain ⟨inf, hinf, hsz⟩ := Option.map_eq_some_iff.1 hs
  have hagg := isAgg_of (d := .int .i64) hu rfl w
  simp [part, Sem.run_bind, hagg, sizeOf, typeInfo, hinf, hsz, h]

/-- One round of the comparison. -/
def eqFrom (xs ys : List Int) (i : Nat) : Nat → Bool
  | 0 => true
  | n + 1 => xs.getD i 0 == ys.getD i 0 && eqFrom xs ys (i + 1) n

theorem eqFrom_iff (xs ys : List Int) : ∀ (n i : Nat), eqFrom xs ys i n = true ↔ ∀ k, i ≤ k → k < i + n → xs.getD k 0 = ys.getD k 0 := by
  intro n
  induction n with
  | zero => intro i; simp only [eqFrom, true_iff]; intro k h1 h2; omega
  | succ n ih =>
    intro i
    simp only [eqFrom, Bool.and_eq_true, beq_iff_eq]
    rw [ih (i + 1)]
    constructor
    · rintro ⟨h0, h⟩ k h1 h2
      by_cases e : k = i
      · rw [e]; exact h0
      · exact h k (by omega) (by omega)
    · intro h
      exact ⟨h i (by omega) (by omega), fun k h1 h2 => h k (by omega) (by omega)⟩

theorem run_eq_arr {t e : TypeId} {n d : Nat} (hu : P.underlying t = some (.array n e)) (he : P.underlying e = some (.int .i64)) (hs : (P.info? e).map (·.size) = some 1) (xs ys : List Int) (hx : xs.length = n) (hy : ys.length = n) (w : World) :
    (Op.equalIn (d + 2) t (.agg (xs.map (Value.int .i64)).toArray) (.agg (ys.map (Value.int .i64)).toArray)).run P w = .ok (eqFrom xs ys 0 n) w := by
  obtain ⟨inf, hinf, hsz⟩ := Option.map_eq_some_iff.1 hs
  have hp : ∀ (zs : List Int), zs.length = n → ∀ i, i < n → ∀ w, (part e (zs.map (Value.int .i64)).toArray i).run P w = .ok (.int .i64 (zs.getD i 0)) w := by
    intro zs hz i hi w
    exact part_int he hs _ i _ (by simp [hz, hi]) w
  rw [Op.equalIn]
  simp only [Sem.run_bind, run_underlying hu, Result.andThen_ok, sizeOf, typeInfo, run_program, hinf, hsz, Nat.mul_one]
  simp only [Sem.run_pure, Result.andThen_ok, hsz, Nat.mul_one]
  simp only [Std.Legacy.Range.forIn_eq_forIn_range', Std.Legacy.Range.size, Nat.sub_zero, Nat.add_sub_cancel, Nat.div_one]
  have key : ∀ (m i : Nat) (w : World), i + m = n → (forIn (m := Sem) (List.range' i m) ((none, ()) : Option Bool × Unit) fun i __s => do
              let __do_lift ← part e (List.map (Value.int .i64) xs).toArray i
              let __do_lift_1 ← part e (List.map (Value.int .i64) ys).toArray i
              let __do_lift ← Op.equalIn (d + 1) e __do_lift __do_lift_1
              if (!__do_lift) = true then pure (ForInStep.done (some false, ())) else pure (ForInStep.yield (none, ()))).run P w = .ok (if eqFrom xs ys i m then (none, ()) else (some false, ())) w := by
    intro m
    induction m with
    | zero => intro i w _; simp [eqFrom, List.range']
    | succ m ih =>
      intro i w hi
      rw [List.range'_succ, List.forIn_cons]
      simp only [Sem.run_bind, hp xs hx i (by omega), hp ys hy i (by omega), Result.andThen_ok, run_equalIn_int w d e .i64 .i64 _ _ he, Sem.run_ite, eqFrom]
      by_cases hb : xs.getD i 0 = ys.getD i 0
      · have hb' : (xs.getD i 0 == ys.getD i 0) = true := by simpa using hb
        simp only [hb', Bool.not_true, Bool.false_eq_true, if_false, Sem.run_pure, Result.andThen_ok, Bool.true_and]
        exact ih (i + 1) w (by omega)
      · have hb' : (xs.getD i 0 == ys.getD i 0) = false := by simpa using hb
        simp only [hb', Bool.not_false, if_true, Sem.run_pure, Result.andThen_ok, Bool.false_and, Bool.false_eq_true, if_false]
  have h0 := key n 0 w (by omega)

  rw [h0]
  cases eqFrom xs ys 0 n <;> simp
end
end Go.Proofs.Ytfpnmphmngdkdaa
