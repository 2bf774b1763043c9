/-
  Arguments, opened: an inode, by value. No condition.
-/
import Derived.Test.YtlopdbhjdijlmaaQLaw
import Derived.Test.YtlopdbhjdijlmaaQApp

namespace Go.Proofs.Ytlopdbhjdijlmaa
open Go.ChangeShapes Go.WideShapes Go.ChangeAt Go.RowKit Go.Deep
set_option linter.unusedSimpArgs false
set_option linter.unusedVariables false

section
variable {H : Type} {enc : TypeId × Value → H} {P : Program} {w : World} {base : Nat} {sp : Nat → Bool} {held : Bool}

theorem open_rows_c {t e : TypeId} {fs : Array Field} {fuel : Nat} {v : Value} {y : DataW H × List MemPlace} (ht : P.underlying t = some (.slice e)) (he : P.underlying e = some (.struct fs))
    (hone : oneCellFields P fs = true) (hC : P.cellsOf e = fs.size) (h0 : 0 < fs.size) (hf : DataW.trod enc P w base sp held fuel t [v] = some y) :
    ∃ ao len cap, v = .slice ao len cap ∧ len ≤ cap ∧ cap ≤ maxLen ∧ (ao = none → len = 0 ∧ cap = 0) ∧
      ∀ i, i < len → ∃ g o, ao = some ⟨g, o, none⟩ ∧ ∀ j f, fs[j]? = some f → ∃ c y n, w.cell? ⟨g, o + i * fs.size + j, none⟩ = some c ∧ DataW.trod enc P w base sp held n f.type [c] = some y := by
  rcases open_slice ht hf with ⟨hcs, -⟩ | ⟨a, len, cap, m, n, D, Pl, hcs, -, hl, hm, hmm, -, hi⟩
  · simp at hcs
    subst hcs
    exact ⟨none, 0, 0, rfl, Nat.le_refl _, Nat.zero_le _, fun _ => ⟨rfl, rfl⟩, fun i h => by omega⟩
  · simp at hcs
    subst hcs
    refine ⟨some a, len, cap, rfl, hl, hm, (fun h => by cases h), fun i hil => ?_⟩
    have hlm : len ≤ m := by rw [hmm]; split <;> omega
    obtain ⟨cs', hc, ht'⟩ := hi i (by omega)
    rw [hC] at hc
    obtain ⟨ys, n', -, -, hlen', hyl, hfld⟩ := DataW.trod_struct he ht'
    obtain ⟨_, hcl, hat⟩ := World.cells?_some hc
    have hspot : ∀ j, j < fs.size → w.cell? ⟨a.block, a.off + i * fs.size + j, none⟩ = cs'[j]? ∧ a = ⟨a.block, a.off, none⟩ := by
      intro j hj
      have h1 := hat j hj
      rw [add_add] at h1
      have hv : cs'[j]? = some (cs'[j]'(by omega)) := List.getElem?_eq_getElem (by omega)
      rw [hv] at h1 ⊢
      have h2 := spot_none h1
      have ha : a = ⟨a.block, a.off, none⟩ := by
        have h00 := hat 0 h0
        have hv0 : cs'[0]? = some (cs'[0]'(by omega)) := List.getElem?_eq_getElem (by omega)
        rw [hv0] at h00
        have h3 := spot_none h00
        rw [add_add] at h3
        by_cases e : i * fs.size + 0 = 0
        · rw [e] at h3
          exact h3
        · -- the slice's own first cell
          obtain ⟨cs2, hc2, -⟩ := hi 0 (by omega)
          rw [hC] at hc2
          obtain ⟨_, hcl2, hat2⟩ := World.cells?_some hc2
          have h4 := hat2 0 h0
          have hv4 : cs2[0]? = some (cs2[0]'(by omega)) := List.getElem?_eq_getElem (by omega)
          rw [hv4, Nat.zero_mul] at h4
          exact spot_none h4
      refine ⟨?_, ha⟩
      rw [← h1]
      obtain ⟨ab, aoff, spt⟩ := a
      simp only [Addr.mk.injEq] at ha
      obtain ⟨-, -, rfl⟩ := ha
      congr 1
      unfold Addr.add
      split
      · rename_i e
        simp only [Addr.mk.injEq, and_true, true_and]
        omega
      · simp only [Addr.mk.injEq, and_true, true_and]
        omega
    refine ⟨a.block, a.off, congrArg some (hspot 0 h0).2, fun j f hj => ?_⟩
    obtain ⟨ho, hk⟩ := hone_of hone j f hj
    have hjl : j < fs.size := (Array.getElem?_eq_some_iff.1 hj).1
    have hv : cs'[j]? = some (cs'[j]'(by omega)) := List.getElem?_eq_getElem (by omega)
    have h1 := hfld j f hj
    rw [ho, hk] at h1
    have hone' : (cs'.drop j).take 1 = [cs'[j]'(by omega)] := by
      rw [List.drop_eq_getElem_cons (by omega)]
      rfl
    rw [hone'] at h1
    have hys : ys[j]? = some (ys[j]'(by omega)) := List.getElem?_eq_getElem (by omega)
    exact ⟨_, _, n', by rw [(hspot j hjl).1, hv], h1.trans hys⟩


/-- Thirteen cells, or any other number, that read as an array of whole numbers. -/
theorem arr_cells {t e : TypeId} {n : Nat} {k : IntKind} {fuel : Nat} {l : List Value} {y : DataW H × List MemPlace} (ht : P.underlying t = some (.array n e)) (he : P.underlying e = some (.int k)) (hce : P.cellsOf e = 1) (hln : l.length = n)
    (hf : DataW.trod enc P w base sp held fuel t l = some y) : ∃ zs : List Int, l = zs.map (Value.int k) ∧ zs.length = n ∧ ∀ z ∈ zs, (Lit.int k z).wf = true := by
  obtain ⟨xs, m, rfl, _, hlen, hxs, hall⟩ := DataW.trod_array ht hf
  have each : ∀ i (hi : i < l.length), ∃ z, l[i] = .int k z ∧ (Lit.int k z).wf = true := by
    intro i hi
    have h1 := hall i (by omega)
    simp only [hce, Nat.mul_one] at h1
    have hx : xs[i]? = some (xs[i]'(by omega)) := List.getElem?_eq_getElem (by omega)
    rw [hx, List.drop_eq_getElem_cons hi, List.take_succ_cons, List.take_zero] at h1
    exact int_of he h1
  have build : ∀ (l : List Value), (∀ i (hi : i < l.length), ∃ z, l[i] = .int k z ∧ (Lit.int k z).wf = true) → ∃ zs : List Int, l = zs.map (Value.int k) ∧ ∀ z ∈ zs, (Lit.int k z).wf = true := by
    intro l
    induction l with
    | nil => intro _; exact ⟨[], rfl, by simp⟩
    | cons c l ih =>
      intro hl
      obtain ⟨z, hz, hw⟩ := hl 0 (by simp)
      obtain ⟨zs, hzs, hws⟩ := ih (fun i hi => hl (i + 1) (by simpa using hi))
      simp only [List.getElem_cons_zero] at hz
      exact ⟨z :: zs, by rw [hz, hzs]; rfl, by intro y hy; rcases List.mem_cons.1 hy with rfl | hy; exact hw; exact hws y hy⟩
  obtain ⟨zs, hzs, hws⟩ := build l each
  refine ⟨zs, hzs, ?_, hws⟩
  have := congrArg List.length hzs
  simp only [List.length_map] at this
  omega

end

theorem list18 {α : Type} : ∀ (l : List α), l.length = 18 → ∃ x0 x1 x2 x3 x4 x5 x6 x7 x8 x9 x10 x11 x12 x13 x14 x15 x16 x17, l = [x0, x1, x2, x3, x4, x5, x6, x7, x8, x9, x10, x11, x12, x13, x14, x15, x16, x17]
  | [x0, x1, x2, x3, x4, x5, x6, x7, x8, x9, x10, x11, x12, x13, x14, x15, x16, x17], _ => ⟨x0, x1, x2, x3, x4, x5, x6, x7, x8, x9, x10, x11, x12, x13, x14, x15, x16, x17, rfl⟩

set_option maxRecDepth 100000 in
theorem holdsE_of {H : Type} {enc : TypeId × Value → H} {W : World} {base : Nat} {sp : Nat → Bool} {held : Bool} {n : Nat} {v : Value} {y : DataW H × List MemPlace} (h : DataW.trod enc Try.prog W base sp held n 23 [v] = some y) :
    ∃ l : List En, HoldsE W v l ∧ ∀ x ∈ l, x.Ok := by
  obtain ⟨ao, len, cap, rfl, h1, h2, h3, h4⟩ := open_rows_c Try.underlying23 Try.underlying27 (by kernel_rfl) (by kernel_rfl) (Nat.zero_lt_succ _) h
  obtain ⟨l, hl, hp⟩ := list_of (default : En) (P := fun j (x : En) => (∃ g o, ao = some ⟨g, o, none⟩ ∧ W.cell? ⟨g, o + j * 2, none⟩ = some (.string x.name) ∧ W.cell? ⟨g, o + j * 2 + 1, none⟩ = some (.int .i64 x.ino)) ∧ x.Ok) len (by
    intro j hj
    obtain ⟨g, o, ha, hc⟩ := h4 j hj
    obtain ⟨c0, y0, n0, e0, t0⟩ := hc 0 _ rfl
    obtain ⟨c1, y1, n1, e1, t1⟩ := hc 1 _ rfl
    obtain ⟨s, rfl, w0⟩ := string_of Try.underlying9 t0
    obtain ⟨z1, rfl, w1⟩ := int_of Try.underlying3 t1
    exact ⟨⟨s, z1⟩, ⟨g, o, ha, e0, e1⟩, w0, wf_i64 w1⟩)
  rw [← hl] at hp h1 h3 ⊢
  refine ⟨l, ⟨ao, cap, rfl, h1, h2, fun e => (h3 e).2, fun j hj => (hp j hj).1⟩, fun x hx => ?_⟩
  obtain ⟨i, hi, rfl⟩ := List.getElem_of_mem hx
  have := (hp i hi).2
  rw [List.getD_eq_getElem?_getD, List.getElem?_eq_getElem hi] at this
  exact this

set_option maxRecDepth 100000 in
theorem open_ino {H : Type} {enc : TypeId × Value → H} {W : World} {r : Reach} {base b0 : Nat} {sp : Nat → Bool} {held : Bool} {v : Value} {d : DataW H} {p : List MemPlace}
    (hok : Value.okWide Try.prog W r b0 25 v) (h : DataW.Trod enc Try.prog W base sp held 25 v d p) :
    ∃ (n : Ino) (ev : Value), v = .agg (inoA n ev) ∧ n.Ok ∧ HoldsE W ev n.ents := by
  obtain ⟨cs, rfl, hsz⟩ := okWide_struct Try.underlying25 hok
  have hc18 : Try.prog.cellsOf 25 = 18 := by kernel_rfl
  rw [hc18] at hsz
  obtain ⟨x0, x1, x2, x3, x4, x5, x6, x7, x8, x9, x10, x11, x12, x13, x14, x15, x16, x17, hcs⟩ := list18 cs.toList (by simpa using hsz)
  have hcs2 : cs = #[x0, x1, x2, x3, x4, x5, x6, x7, x8, x9, x10, x11, x12, x13, x14, x15, x16, x17] := by cases cs; simp_all
  subst hcs2
  obtain ⟨fuel, hf⟩ := h
  obtain ⟨xs, n, -, -, hlen, hxl, hfld⟩ := DataW.trod_struct Try.underlying25 hf
  have hx : ∀ j, j < 6 → ∃ y, xs[j]? = some y := fun j hj => ⟨xs[j]'(by rw [hxl]; exact hj), List.getElem?_eq_getElem (by rw [hxl]; exact hj)⟩
  obtain ⟨y0, e0⟩ := hx 0 (by omega)
  obtain ⟨y1, e1⟩ := hx 1 (by omega)
  obtain ⟨y2, e2⟩ := hx 2 (by omega)
  obtain ⟨y3, e3⟩ := hx 3 (by omega)
  obtain ⟨y4, e4⟩ := hx 4 (by omega)
  obtain ⟨y5, e5⟩ := hx 5 (by omega)
  have t0 := hfld 0 _ rfl
  have t1 := hfld 1 _ rfl
  have t2 := hfld 2 _ rfl
  have t3 := hfld 3 _ rfl
  have t4 := hfld 4 _ rfl
  have t5 := hfld 5 _ rfl
  rw [show Try.prog.cellsOf _ = 1 by kernel_rfl, e0] at t0
  rw [show Try.prog.cellsOf _ = 1 by kernel_rfl, e1] at t1
  rw [show Try.prog.cellsOf _ = 1 by kernel_rfl, e2] at t2
  rw [show Try.prog.cellsOf _ = 1 by kernel_rfl, e3] at t3
  rw [show Try.prog.cellsOf _ = 13 by kernel_rfl, e4] at t4
  rw [show Try.prog.cellsOf _ = 1 by kernel_rfl, e5] at t5
  obtain ⟨z0, rfl, w0⟩ := int_of (c := x0) Try.underlying3 t0
  obtain ⟨z1, rfl, w1⟩ := int_of (c := x1) Try.underlying3 t1
  obtain ⟨z2, rfl, w2⟩ := int_of (c := x2) Try.underlying3 t2
  obtain ⟨z3, rfl, w3⟩ := int_of (c := x3) Try.underlying3 t3
  obtain ⟨zs, hz, hzl, hwz⟩ := arr_cells (l := [x4, x5, x6, x7, x8, x9, x10, x11, x12, x13, x14, x15, x16]) Try.underlying22 Try.underlying3 (by kernel_rfl) rfl t4
  obtain ⟨l, hl, hlo⟩ := holdsE_of (v := x17) t5
  refine ⟨⟨z0, z1, z2, z3, zs, l⟩, x17, ?_, ⟨wf_i64 w0, wf_i64 w1, wf_i64 w2, wf_i64 w3, hzl, fun z hz => wf_i64 (hwz z hz), hlo⟩, hl⟩
  unfold inoA inoL
  dsimp only
  rw [← hz]
  rfl
end Go.Proofs.Ytlopdbhjdijlmaa
