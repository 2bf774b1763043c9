/-
  Arguments, opened: slices of structs whose fields take one cell each. General lemmas (no function of the program).
-/
import Derived.Test.YtfpnmphmngdkdaaOpen
import Derived.Deep.Slices
import Derived.Deep.Fields
import Derived.ChangeSame
namespace Go.Proofs.Ytfpnmphmngdkdaa
open Go.ChangeShapes Go.WideShapes Go.ChangeAt Go.RowKit Go.Deep
set_option linter.unusedSimpArgs false
set_option linter.unusedVariables false

theorem list_of {α : Type} (d : α) {P : Nat → α → Prop} : ∀ n : Nat, (∀ i, i < n → ∃ x, P i x) → ∃ l : List α, l.length = n ∧ ∀ i, i < n → P i (l.getD i d)
  | 0, _ => ⟨[], rfl, fun i h => by omega⟩
  | n + 1, h => by
    obtain ⟨l, hl, hp⟩ := list_of d n (fun i hi => h i (by omega))
    obtain ⟨x, hx⟩ := h n (by omega)
    refine ⟨l ++ [x], by simp [hl], fun i hi => ?_⟩
    by_cases e : i = n
    · subst e
      rw [List.getD_eq_getElem?_getD, List.getElem?_append_right (by omega), hl]
      simpa using hx
    · have := hp i (by omega)
      rw [List.getD_eq_getElem?_getD] at this ⊢
      rw [List.getElem?_append_left (by omega)]
      exact this

theorem spot_none {w : World} {a : Addr} {v : Value} (h : w.cell? a = some v) : a = ⟨a.block, a.off, none⟩ := by
  obtain ⟨b, o, s⟩ := a
  unfold World.cell? at h
  simp only at h
  split at h
  · split at h
    · cases h
    · cases s with
      | none => rfl
      | some x => simp at *
  · cases h

section
variable {H : Type} {enc : TypeId × Value → H} {P : Program} {w : World} {base : Nat} {sp : Nat → Bool} {held : Bool}

/-- A slice of structs, cell by cell. -/
theorem open_rows {t e : TypeId} {fs : Array Field} {r : Reach} {b0 : Nat} {v : Value} {d : DataW H} {p : List MemPlace} (ht : P.underlying t = some (.slice e)) (he : P.underlying e = some (.struct fs))
    (hone : oneCellFields P fs = true) (hC : P.cellsOf e = fs.size) (h0 : 0 < fs.size) (hok : Value.okWide P w r b0 t v) (h : DataW.Trod enc P w base sp held t v d p) :
    ∃ ao len cap, v = .slice ao len cap ∧ len ≤ cap ∧ cap ≤ maxLen ∧ (ao = none → len = 0 ∧ cap = 0) ∧
      ∀ i, i < len → ∃ g o, ao = some ⟨g, o, none⟩ ∧ ∀ j f, fs[j]? = some f → ∃ c y n, w.cell? ⟨g, o + i * fs.size + j, none⟩ = some c ∧ DataW.trod enc P w base sp held n f.type [c] = some y := by
  obtain ⟨a0, len0, cap0, rfl⟩ := okWide_slice ht hok
  obtain ⟨fuel, hf⟩ := h
  rcases open_slice ht hf with ⟨hcs, -⟩ | ⟨a, len, cap, m, n, D, Pl, hcs, -, hl, hm, hmm, -, hi⟩
  · simp [Value.cells] at hcs
    obtain ⟨rfl, rfl, rfl⟩ := hcs
    exact ⟨none, 0, 0, rfl, Nat.le_refl _, Nat.zero_le _, fun _ => ⟨rfl, rfl⟩, fun i h => by omega⟩
  · simp [Value.cells] at hcs
    obtain ⟨rfl, rfl, rfl⟩ := hcs
    refine ⟨some a, len0, cap0, rfl, hl, hm, (fun h => by cases h), fun i hil => ?_⟩
    have hlm : len0 ≤ m := by rw [hmm]; split <;> omega
    obtain ⟨cs', hc, ht'⟩ := hi i (by omega)
    rw [hC] at hc
    obtain ⟨ys, n', -, -, hlen, hyl, hfld⟩ := DataW.trod_struct he ht'
    obtain ⟨_, hcl, hat⟩ := World.cells?_some hc
    have hspot : ∀ j, j < fs.size → w.cell? ⟨a.block, a.off + i * fs.size + j, none⟩ = cs'[j]? ∧ a = ⟨a.block, a.off, none⟩ := by
      intro j hj
      have h1 := hat j hj
      rw [add_add] at h1
      have hv : cs'[j]? = some (cs'[j]'(by omega)) := List.getElem?_eq_getElem (by omega)
      rw [hv] at h1 ⊢
      have h2 := spot_none h1
      have ha : a = ⟨a.block, a.off, none⟩ := by
        have h00 := hat 0 h0
        have hv0 : cs'[0]? = some (cs'[0]'(by omega)) := List.getElem?_eq_getElem (by omega)
        rw [hv0] at h00
        have h3 := spot_none h00
        rw [add_add] at h3
        by_cases e : i * fs.size + 0 = 0
        · rw [e] at h3
          exact h3
        · -- the slice's own first cell
          obtain ⟨cs2, hc2, -⟩ := hi 0 (by omega)
          rw [hC] at hc2
          obtain ⟨_, hcl2, hat2⟩ := World.cells?_some hc2
          have h4 := hat2 0 h0
          have hv4 : cs2[0]? = some (cs2[0]'(by omega)) := List.getElem?_eq_getElem (by omega)
          rw [hv4, Nat.zero_mul] at h4
          exact spot_none h4
      refine ⟨?_, ha⟩
      rw [← h1]
      obtain ⟨ab, aoff, spt⟩ := a
      simp only [Addr.mk.injEq] at ha
      obtain ⟨-, -, rfl⟩ := ha
      congr 1
      unfold Addr.add
      split
      · rename_i e
        simp only [Addr.mk.injEq, and_true, true_and]
        omega
      · simp only [Addr.mk.injEq, and_true, true_and]
        omega
    refine ⟨a.block, a.off, congrArg some (hspot 0 h0).2, fun j f hj => ?_⟩
    obtain ⟨ho, hk⟩ := hone_of hone j f hj
    have hjl : j < fs.size := (Array.getElem?_eq_some_iff.1 hj).1
    have hv : cs'[j]? = some (cs'[j]'(by omega)) := List.getElem?_eq_getElem (by omega)
    have h1 := hfld j f hj
    rw [ho, hk] at h1
    have hone' : (cs'.drop j).take 1 = [cs'[j]'(by omega)] := by
      rw [List.drop_eq_getElem_cons (by omega)]
      rfl
    rw [hone'] at h1
    have hys : ys[j]? = some (ys[j]'(by omega)) := List.getElem?_eq_getElem (by omega)
    exact ⟨_, _, n', by rw [(hspot j hjl).1, hv], h1.trans hys⟩

/-- A cell that reads as a whole number. -/
theorem int_of {t : TypeId} {k : IntKind} {n : Nat} {c : Value} {y : DataW H × List MemPlace} (ht : P.underlying t = some (.int k)) (h : DataW.trod enc P w base sp held n t [c] = some y) : ∃ z, c = .int k z ∧ (Lit.int k z).wf = true := by
  obtain ⟨z, hz, -, hw⟩ := DataW.trod_int ht h
  exact ⟨z, by simpa using hz, hw⟩

theorem string_of {t : TypeId} {n : Nat} {c : Value} {y : DataW H × List MemPlace} (ht : P.underlying t = some .string) (h : DataW.trod enc P w base sp held n t [c] = some y) : ∃ s : ByteArray, c = .string s ∧ s.size ≤ maxLen := by
  obtain ⟨s, hs, -, hw⟩ := DataW.trod_string ht h
  exact ⟨s, by simpa using hs, hw⟩
end
end Go.Proofs.Ytfpnmphmngdkdaa
