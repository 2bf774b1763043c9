/-
  Slices of structs that are handed in, whatever their cells; inodes in slices. No condition.
  Slices of inodes that are handed in: what they hold; opened. No condition.
-/
import Derived.Test.YtlopdbhjdijlmaaQOpenIno
import Derived.Test.YtlopdbhjdijlmaaQLaw

namespace Go.Proofs.Ytlopdbhjdijlmaa
open Go.ChangeShapes Go.WideShapes Go.ChangeAt Go.RowKit Go.Deep
set_option linter.unusedSimpArgs false
set_option linter.unusedVariables false

section
variable {H : Type} {enc : TypeId × Value → H} {P : Program} {w : World} {base : Nat} {sp : Nat → Bool} {held : Bool}

theorem add_spot (a : Addr) (k : Nat) (ha : a = ⟨a.block, a.off, none⟩) : a.add k = ⟨a.block, a.off + k, none⟩ := by
  obtain ⟨b, o, s⟩ := a
  simp only [Addr.mk.injEq, true_and] at ha
  subst ha
  unfold Addr.add
  split
  · rename_i e
    subst e
    rfl
  · rfl

theorem open_rows_any {t e : TypeId} {fuel : Nat} {v : Value} {y : DataW H × List MemPlace} (ht : P.underlying t = some (.slice e)) (h0 : 0 < P.cellsOf e) (hf : DataW.trod enc P w base sp held fuel t [v] = some y) :
    ∃ ao len cap, v = .slice ao len cap ∧ len ≤ cap ∧ cap ≤ maxLen ∧ (ao = none → len = 0 ∧ cap = 0) ∧
      ∀ i, i < len → ∃ g o cs y n, ao = some ⟨g, o, none⟩ ∧ cs.length = P.cellsOf e ∧ (∀ j, j < P.cellsOf e → w.cell? ⟨g, o + i * P.cellsOf e + j, none⟩ = cs[j]?) ∧ DataW.trod enc P w base sp held n e cs = some y := by
  rcases open_slice ht hf with ⟨hcs, -⟩ | ⟨a, len, cap, m, n, D, Pl, hcs, -, hl, hm, hmm, -, hi⟩
  · simp at hcs
    subst hcs
    exact ⟨none, 0, 0, rfl, Nat.le_refl _, Nat.zero_le _, fun _ => ⟨rfl, rfl⟩, fun i h => by omega⟩
  · simp at hcs
    subst hcs
    refine ⟨some a, len, cap, rfl, hl, hm, (fun h => by cases h), fun i hil => ?_⟩
    have hlm : len ≤ m := by rw [hmm]; split <;> omega
    have ha : a = ⟨a.block, a.off, none⟩ := by
      obtain ⟨cs2, hc2, -⟩ := hi 0 (by omega)
      obtain ⟨_, hcl2, hat2⟩ := World.cells?_some hc2
      have h4 := hat2 0 h0
      have hv4 : cs2[0]? = some (cs2[0]'(by omega)) := List.getElem?_eq_getElem (by omega)
      rw [hv4, Nat.zero_mul] at h4
      exact spot_none h4
    obtain ⟨cs', hc, ht'⟩ := hi i (by omega)
    obtain ⟨_, hcl, hat⟩ := World.cells?_some hc
    refine ⟨a.block, a.off, cs', _, n, congrArg some ha, hcl, fun j hj => ?_, ht'⟩
    have h1 := hat j hj
    rw [add_add, add_spot a _ ha] at h1
    rw [← h1, Nat.add_assoc]
end

set_option maxRecDepth 100000 in
theorem ino_of {H : Type} {enc : TypeId × Value → H} {W : World} {base : Nat} {sp : Nat → Bool} {held : Bool} {fuel : Nat} {cs : List Value} {y : DataW H × List MemPlace} (hlen : cs.length = 18) (hf : DataW.trod enc Try.prog W base sp held fuel 25 cs = some y) :
    ∃ (n : Ino) (ev : Value), cs = inoL n ev ∧ n.Ok ∧ HoldsE W ev n.ents := by
  obtain ⟨x0, x1, x2, x3, x4, x5, x6, x7, x8, x9, x10, x11, x12, x13, x14, x15, x16, x17, rfl⟩ := list18 cs hlen
  obtain ⟨xs, n, -, -, hlen, hxl, hfld⟩ := DataW.trod_struct Try.underlying25 hf
  have hx : ∀ j, j < 6 → ∃ y, xs[j]? = some y := fun j hj => ⟨xs[j]'(by rw [hxl]; exact hj), List.getElem?_eq_getElem (by rw [hxl]; exact hj)⟩
  obtain ⟨y0, e0⟩ := hx 0 (by omega)
  obtain ⟨y1, e1⟩ := hx 1 (by omega)
  obtain ⟨y2, e2⟩ := hx 2 (by omega)
  obtain ⟨y3, e3⟩ := hx 3 (by omega)
  obtain ⟨y4, e4⟩ := hx 4 (by omega)
  obtain ⟨y5, e5⟩ := hx 5 (by omega)
  have t0 := hfld 0 _ rfl
  have t1 := hfld 1 _ rfl
  have t2 := hfld 2 _ rfl
  have t3 := hfld 3 _ rfl
  have t4 := hfld 4 _ rfl
  have t5 := hfld 5 _ rfl
  rw [show Try.prog.cellsOf _ = 1 by kernel_rfl, e0] at t0
  rw [show Try.prog.cellsOf _ = 1 by kernel_rfl, e1] at t1
  rw [show Try.prog.cellsOf _ = 1 by kernel_rfl, e2] at t2
  rw [show Try.prog.cellsOf _ = 1 by kernel_rfl, e3] at t3
  rw [show Try.prog.cellsOf _ = 13 by kernel_rfl, e4] at t4
  rw [show Try.prog.cellsOf _ = 1 by kernel_rfl, e5] at t5
  obtain ⟨z0, rfl, w0⟩ := int_of (c := x0) Try.underlying3 t0
  obtain ⟨z1, rfl, w1⟩ := int_of (c := x1) Try.underlying3 t1
  obtain ⟨z2, rfl, w2⟩ := int_of (c := x2) Try.underlying3 t2
  obtain ⟨z3, rfl, w3⟩ := int_of (c := x3) Try.underlying3 t3
  obtain ⟨zs, hz, hzl, hwz⟩ := arr_cells (l := [x4, x5, x6, x7, x8, x9, x10, x11, x12, x13, x14, x15, x16]) Try.underlying22 Try.underlying3 (by kernel_rfl) rfl t4
  obtain ⟨l, hl, hlo⟩ := holdsE_of (v := x17) t5
  refine ⟨⟨z0, z1, z2, z3, zs, l⟩, x17, ?_, ⟨wf_i64 w0, wf_i64 w1, wf_i64 w2, wf_i64 w3, hzl, fun z hz => wf_i64 (hwz z hz), hlo⟩, hl⟩
  unfold inoL
  dsimp only
  rw [← hz]
  rfl
end Go.Proofs.Ytlopdbhjdijlmaa

namespace Go.Proofs.Ytlopdbhjdijlmaa
open Go.ChangeShapes Go.WideShapes Go.ChangeAt Go.RowKit Go.Deep
set_option linter.unusedSimpArgs false
set_option linter.unusedVariables false

/-- An inode and its entries' slice. -/
structure InV where
  n : Ino
  ev : Value
instance : Inhabited InV := ⟨⟨⟨0, 0, 0, 0, List.replicate 13 0, []⟩, .slice none 0 0⟩⟩
def HoldsV (w : World) (v : Value) (l : List InV) : Prop :=
  ∃ ao c, v = .slice ao l.length c ∧ l.length ≤ c ∧ c ≤ maxLen ∧ ∀ j, j < l.length → (∃ g o, ao = some ⟨g, o, none⟩ ∧ w.rangeAt g (o + j * 18) (inoL (l.getD j default).n (l.getD j default).ev)) ∧ (l.getD j default).n.Ok ∧ HoldsE w (l.getD j default).ev (l.getD j default).n.ents

theorem old_modV {w w' : World} {D : Nat → Prop} (hm : Mod D w w') (hd : ∀ b, D b → w.heap.size ≤ b) {a : Addr} {u : Value} (h : w.cell? ⟨a.block, a.off, none⟩ = some u) : w'.cell? ⟨a.block, a.off, none⟩ = some u :=
  hm.cell h (fun h1 => by
    have h2 := World.block_lt_of_cell? w _ h
    have h3 := hd _ h1
    simp only at h2 h3
    omega)
theorem HoldsE.oldV {w w' : World} {v : Value} {l : List En} (h : HoldsE w v l) {D : Nat → Prop} (hm : Mod D w w') (hd : ∀ b, D b → w.heap.size ≤ b) : HoldsE w' v l :=
  h.mod hm (fun h0 g hg h1 => by have := h.lt h0 g hg; have := hd g h1; omega)
theorem HoldsV.old {w w' : World} {v : Value} {l : List InV} (h : HoldsV w v l) {D : Nat → Prop} (hm : Mod D w w') (hd : ∀ b, D b → w.heap.size ≤ b) : HoldsV w' v l := by
  obtain ⟨ao, c, rfl, h1, h2, h4⟩ := h
  refine ⟨ao, c, rfl, h1, h2, fun j hj => ?_⟩
  obtain ⟨⟨g, o, rfl, hr⟩, k3, k4⟩ := h4 j hj
  exact ⟨⟨g, o, rfl, fun q u hq => old_modV hm hd (a := ⟨g, o + j * 18 + q, none⟩) (hr q u hq)⟩, k3, k4.oldV hm hd⟩

set_option maxRecDepth 100000 in
theorem open_inos {H : Type} {enc : TypeId × Value → H} {W : World} {r : Reach} {base b0 : Nat} {sp : Nat → Bool} {held : Bool} {v : Value} {d : DataW H} {p : List MemPlace}
    (hok : Value.okWide Try.prog W r b0 69 v) (h : DataW.Trod enc Try.prog W base sp held 69 v d p) :
    ∃ l : List InV, HoldsV W v l := by
  obtain ⟨fuel, hf⟩ := h
  obtain ⟨a0, len0, cap0, rfl⟩ := okWide_slice Try.underlying69 hok
  have hce : Try.prog.cellsOf 25 = 18 := by kernel_rfl
  obtain ⟨ao, len, cap, hv, h1, h2, h3, h4⟩ := open_rows_any Try.underlying69 (by rw [hce]; decide) (v := .slice a0 len0 cap0) (by simpa [Value.cells] using hf)
  rw [hce] at h4
  rw [hv]
  obtain ⟨l, hl, hp⟩ := list_of (default : InV) (P := fun j (x : InV) => (∃ g o, ao = some ⟨g, o, none⟩ ∧ W.rangeAt g (o + j * 18) (inoL x.n x.ev)) ∧ x.n.Ok ∧ HoldsE W x.ev x.n.ents) len (by
    intro j hj
    obtain ⟨g, o, cs, y, n, ha, hcl, hc, ht⟩ := h4 j hj
    obtain ⟨m, ev, rfl, hm, he⟩ := ino_of hcl ht
    refine ⟨⟨m, ev⟩, ⟨g, o, ha, fun q u hq => ?_⟩, hm, he⟩
    have hql : q < 18 := by
      have h5 := (List.getElem?_eq_some_iff.1 hq).1
      have h6 : (inoL m ev).length = 18 := inoL_len hm.len ev
      have h7 : (inoL (⟨m, ev⟩ : InV).n (⟨m, ev⟩ : InV).ev).length = (inoL m ev).length := rfl
      omega
    rw [hc q hql]
    exact hq)
  rw [← hl] at hp h1 h3 ⊢
  exact ⟨l, ao, cap, rfl, h1, h2, hp⟩
end Go.Proofs.Ytlopdbhjdijlmaa
