/-
  General lemmas (no function of the program): reading an element of an array value. No condition.
-/
import Derived.Test.YtlopdbhjdijlmaaRows
import Derived.WalkKit
import Derived.ProofKit
import Derived.OpenShut
import Derived.Outline
import Derived.BigQuiet
import Derived.Deep.QuietTactic
import Derived.Deep.LoopGhost
import Derived.Deep.DeepCutAuto
import Derived.Deep.CutBlock
import Derived.Deep.RegionHeld3
import Derived.WalkLawsBesides
import Derived.WalkSpells
import Derived.Handy
import Derived.Lib.Hide
import Derived.Deep.AppendLies
import Derived.Deep.RegionLaw

namespace Go.Proofs.Ytlopdbhjdijlmaa
open Go.ChangeShapes Go.WideShapes Go.ChangeAt Go.RowKit

/-- Or of what stands above a bit and what stands below it. -/
theorem u64_join (i : Nat) (x y : Int) (h0 : 0 ≤ x) (h1 : x < 18446744073709551616) (hx : x.toNat % 2 ^ i = 0) (h2 : 0 ≤ y) (h3 : y.toNat < 2 ^ i) (h4 : y < 18446744073709551616) :
    bits .or .u64 x y = x + y := by
  rw [u64_or x y h0 h1 h2 h4, nat_join i _ _ hx h3]
  omega

theorem cells_new (w : World) (xs : List Value) (t : TypeId) : ∀ j u, xs[j]? = some u → (w.alloc (.cells xs.toArray t)).cell? ((⟨w.heap.size, 0, none⟩ : Addr).add j) = some u := by
  intro j u hj
  have hadd : (⟨w.heap.size, 0, none⟩ : Addr).add j = ⟨w.heap.size, j, none⟩ := by unfold Addr.add; split <;> simp_all
  rw [hadd, cell_of_row _ _ j _ _ _ (heap_alloc_new w _)]
  simpa using hj

/-- Is a type's value made of cells? -/
def aggT (d : TypeDesc) : Bool := match d with | .struct _ | .array _ _ => true | _ => false

section
variable {P : Program}

theorem isAgg_of {t : TypeId} {d : TypeDesc} (hu : P.underlying t = some d) (hd : aggT d = false) (w : World) :
    (isAgg t).run P w = .ok false w := by
  unfold isAgg
  rw [Sem.run_bind, run_underlying hu w]
  cases d <;> simp_all [aggT]

/-- An element of one cell of an array value. -/
theorem run_index_arr {t e : TypeId} {n : Nat} {d : TypeDesc} (hu : P.underlying t = some (.array n e)) (hue : P.underlying e = some d)
    (hd : aggT d = false) (hs : (P.info? e).map (·.size) = some 1)
    (cs : Array Value) (k : IntKind) (i : Nat) (v : Value) (hi : i < n) (hv : cs[i]? = some v) (w : World) :
    (Instr.index t (.agg cs) (.int k i)).run P w = .ok v w := by
  obtain ⟨inf, hinf, hsz⟩ := Option.map_eq_some_iff.1 hs
  have hagg := isAgg_of hue hd w
  simp [Instr.index, asIntOf, run_underlying hu, hi, sizeOf, typeInfo, hinf, hsz, part, Sem.run_bind, hagg, hv]

/-- What is owned is a slice value of that length. -/
theorem own_shape {w : World} {base : Nat} {e : TypeId} {size : Nat} {v : Value} {n : Nat} {xs : List Value} (h : w.ownsRow base e size v n xs) :
    ∃ ao cap, v = .slice ao n cap ∧ n ≤ cap ∧ cap ≤ maxLen ∧ ∀ a, ao = some a → base ≤ a.block ∧ a.block < w.heap.size ∧ a = ⟨a.block, 0, none⟩ := by
  rcases h.2 with ⟨rfl, rfl⟩ | ⟨g, cap, cur, rfl, hb, hg, hn, hm, _⟩
  · exact ⟨none, 0, rfl, Nat.le_refl _, Nat.zero_le _, fun a ha => by simp at ha⟩
  · refine ⟨_, cap, rfl, hn, hm, fun a ha => ?_⟩
    simp at ha
    subst ha
    exact ⟨hb, lt_of_block hg, rfl⟩

theorem own_base {w : World} {base base' : Nat} {e : TypeId} {size : Nat} {v : Value} {n : Nat} {xs : List Value} (h : w.ownsRow base e size v n xs) (hb : base' ≤ base) : w.ownsRow base' e size v n xs := by
  refine ⟨h.1, ?_⟩
  rcases h.2 with h2 | ⟨g, cap, cur, hv, hg, r⟩
  · exact .inl h2
  · exact .inr ⟨g, cap, cur, hv, by omega, r⟩

theorem own_some {w : World} {base : Nat} {e : TypeId} {size : Nat} {v : Value} {n : Nat} {xs : List Value} (h : w.ownsRow base e size v n xs) (hn : 0 < n) :
    ∃ g cap, v = .slice (some ⟨g, 0, none⟩) n cap ∧ base ≤ g ∧ g < w.heap.size ∧ n ≤ cap ∧ cap ≤ maxLen := by
  rcases h.2 with ⟨rfl, rfl⟩ | ⟨g, cap, cur, rfl, hb, hg, hn, hm, _⟩
  · omega
  · exact ⟨g, cap, rfl, hb, lt_of_block hg, hn, hm⟩

/-- Cells that lie below stay. -/
theorem rangeAt_below {w w' : World} {b o : Nat} {cs : List Value} (h : w.rangeAt b o cs) {n : Nat} (hb : Below n w w') (hn : b < n) : w'.rangeAt b o cs := fun j v hv => by
  rw [hb.cell hn]
  exact h j v hv

theorem rangeAt_new (w : World) (cs : List Value) (t : TypeId) (fr : Nat × Nat) : (w.alloc (.cells cs.toArray t fr)).rangeAt w.heap.size 0 cs := fun j v hv => by
  rw [cell_of_row _ _ _ _ _ _ (heap_alloc_new w _)]
  simpa using hv

theorem rangeAt_lt' {w : World} {b o : Nat} {cs : List Value} (h : w.rangeAt b o cs) (hn : 0 < cs.length) : b < w.heap.size :=
  World.block_lt_of_cell? w _ (h 0 _ (List.getElem?_eq_getElem hn))

open Classical in
/-- The cells that lie in a block from an offset on, so many of them: an observer, so that a fact on them is an equation. -/
noncomputable def row? (w : World) (b o n : Nat) : Option (Array Value) :=
  if h : ∃ cs : List Value, cs.length = n ∧ w.rangeAt b o cs then some (Classical.choose h).toArray else none

theorem rangeAt_unique {w : World} {b o : Nat} {cs ds : List Value} (h : w.rangeAt b o cs) (k : w.rangeAt b o ds) (hl : cs.length = ds.length) : cs = ds := by
  apply List.ext_getElem hl
  intro j h1 h2
  have a := h j _ (List.getElem?_eq_getElem h1)
  have b := k j _ (List.getElem?_eq_getElem h2)
  rw [a] at b
  exact Option.some.inj b

theorem row?_some {w : World} {b o n : Nat} {cs : List Value} (h : w.rangeAt b o cs) (hl : cs.length = n) : row? w b o n = some cs.toArray := by
  have he : ∃ cs : List Value, cs.length = n ∧ w.rangeAt b o cs := ⟨cs, hl, h⟩
  unfold row?
  rw [dif_pos he]
  have := Classical.choose_spec he
  rw [rangeAt_unique this.2 h (by omega)]

theorem row?_range {w : World} {b o n : Nat} {cs : Array Value} (h : row? w b o n = some cs) : w.rangeAt b o cs.toList ∧ cs.size = n := by
  unfold row? at h
  split at h
  · rename_i he
    have := Classical.choose_spec he
    simp only [Option.some.injEq] at h
    rw [← h]
    exact ⟨by simpa using this.2, by simpa using this.1⟩
  · simp at h

@[go_sem] theorem row?_drew (w : World) (b o n : Nat) : row? w.drew b o n = row? w b o n := rfl

theorem row?_below {w w' : World} {b o n m : Nat} {cs : Array Value} (h : row? w b o n = some cs) (hb : Below m w w') (hm : b < m) : row? w' b o n = some cs := by
  obtain ⟨h1, h2⟩ := row?_range h
  have := row?_some (rangeAt_below h1 hb hm) (by simpa using h2)
  simpa using this

theorem row?_lt {w : World} {b o n : Nat} {cs : Array Value} (h : row? w b o n = some cs) (hn : 0 < n) : b < w.heap.size := by
  obtain ⟨h1, h2⟩ := row?_range h
  exact rangeAt_lt' h1 (by simpa [h2] using hn)

theorem run_loadAt_row {w : World} {ty e : TypeId} {n : Nat} (hu : P.underlying ty = some (.array n e)) (hi : (P.info? ty).map (·.size) = some n) {b o : Nat} (h : (row? w b o n).isSome = true) :
    (Instr.loadAt ty (.pointer (some ⟨b, o, none⟩))).run P w = .ok (.agg ((row? w b o n).getD #[])) w := by
  obtain ⟨cs, hcs⟩ := Option.isSome_iff_exists.1 h
  obtain ⟨h1, h2⟩ := row?_range hcs
  rw [hcs]
  have := run_loadAt_mid (P := P) w b o ty cs.toList _ h1 hu rfl (by rw [hi]; simp [h2])
  simpa using this

/-- A small array in a block of its own, cell by cell. -/
theorem boxed_new (w : World) (cs : Array Value) (t : TypeId) (fr : Nat × Nat) : ∀ j, (w.alloc (.cells cs t fr)).cell? ⟨w.heap.size, j, none⟩ = cs[j]? :=
  fun j => cell_of_row _ _ j _ _ _ (heap_alloc_new w _)

theorem boxed_below {w w' : World} {B : Nat} {cs : Array Value} (h : ∀ j, w.cell? ⟨B, j, none⟩ = cs[j]?) (hb : Below w.heap.size w w') (hn : 0 < cs.size) : ∀ j, w'.cell? ⟨B, j, none⟩ = cs[j]? := by
  have hlt : B < w.heap.size := World.block_lt_of_cell? (a := ⟨B, 0, none⟩) (u := cs[0]) w (by rw [h 0]; simp [hn])
  exact fun j => (hb.cell (p := ⟨B, j, none⟩) hlt).trans (h j)

theorem own_below {w w' : World} {base : Nat} {e : TypeId} {size : Nat} {v : Value} {n : Nat} {xs : List Value} (h : w.ownsRow base e size v n xs) {m : Nat} (hb : Below m w w') (hm : w.heap.size ≤ m) : w'.ownsRow base e size v n xs := by
  refine ⟨h.1, ?_⟩
  rcases h.2 with h2 | ⟨g, cap, cur, hv, hg, hc, r⟩
  · exact .inl h2
  · exact .inr ⟨g, cap, cur, hv, hg, by rw [hb.block g (by have := lt_of_block hc; omega)]; exact hc, r⟩

/-- w' is w but for the blocks of D, and with new blocks. -/
structure Mod (D : Nat → Prop) (w w' : World) : Prop where
  os : w'.os = w.os
  tape : w'.tape = w.tape
  output : w'.output = w.output
  size : w.heap.size ≤ w'.heap.size
  block : ∀ k, k < w.heap.size → ¬ D k → w'.heap[k]? = w.heap[k]?

/-- The blocks of D, and those that are new. -/
def grow (D : Nat → Prop) (w w' : World) : Nat → Prop := fun b => D b ∨ (w.heap.size ≤ b ∧ b < w'.heap.size)

def nob : Nat → Prop := fun _ => False

theorem Mod.refl (D : Nat → Prop) (w : World) : Mod D w w := ⟨rfl, rfl, rfl, Nat.le_refl _, fun _ _ _ => rfl⟩

theorem Mod.trans {D : Nat → Prop} {a b c : World} (h : Mod D a b) (k : Mod (grow D a b) b c) : Mod D a c :=
  ⟨k.os.trans h.os, k.tape.trans h.tape, k.output.trans h.output, Nat.le_trans h.size k.size, fun i hi hn =>
    (k.block i (Nat.lt_of_lt_of_le hi h.size) (fun hg => by rcases hg with hg | hg; exact hn hg; omega)).trans (h.block i hi hn)⟩

theorem Mod.mono {D D' : Nat → Prop} {w w' : World} (h : Mod D w w') (hD : ∀ b, b < w.heap.size → D b → D' b) : Mod D' w w' :=
  ⟨h.os, h.tape, h.output, h.size, fun k hk hn => h.block k hk (fun hd => hn (hD k hk hd))⟩

theorem Mod.below {D : Nat → Prop} {w w' : World} (h : Mod D w w') {B : Nat} (hB : B ≤ w.heap.size) (hD : ∀ b, D b → B ≤ b) : Below B w w' :=
  ⟨h.os, h.tape, h.output, h.size, fun k hk => h.block k (by omega) (fun hd => by have := hD k hd; omega)⟩

theorem mod_of_below {w w' : World} (h : Below w.heap.size w w') : Mod nob w w' := ⟨h.os, h.tape, h.output, h.size, fun k hk _ => h.block k hk⟩

theorem mod_of_grown {w w' : World} {row : Option Nat} (h : w.grownBy w' row) : Mod (fun b => row = some b) w w' :=
  ⟨h.os, h.tape, h.output, h.size, fun k hk hn => h.block k hk (fun e => hn e.symm)⟩

theorem Mod.drew {D : Nat → Prop} {w w' : World} (h : Mod D w w') : Mod D w w'.drew := ⟨h.os, h.tape, h.output, h.size, h.block⟩
theorem Mod.drewN {D : Nat → Prop} {w w' : World} (h : Mod D w w') (n : Nat) : Mod D w (w'.drewN n) := ⟨h.os, h.tape, h.output, h.size, h.block⟩

theorem Mod.alloc {D : Nat → Prop} {w w' : World} (h : Mod D w w') (o : Obj) : Mod D w (w'.alloc o) :=
  ⟨h.os, h.tape, h.output, by have := h.size; simp; omega, fun k hk hn => (Below.heap_alloc _ _ _ (Nat.lt_of_lt_of_le hk h.size)).trans (h.block k hk hn)⟩

theorem Mod.setCell {D : Nat → Prop} {w w' : World} (h : Mod D w w') {a : Addr} (ha : D a.block ∨ w.heap.size ≤ a.block) (v : Value) : Mod D w (w'.setCell a v) :=
  ⟨h.os, h.tape, h.output, by have := h.size; simpa [World.setCell] using this, fun k hk hn => by
    rw [Below.heap_setCell _ _ _ _ (fun e => by subst e; rcases ha with ha | ha; exact hn ha; omega)]
    exact h.block k hk hn⟩

/-- A block that is not written holds what it held. -/
theorem Mod.heap {D : Nat → Prop} {w w' : World} (h : Mod D w w') {k : Nat} {o : Obj} (hk : w.heap[k]? = some o) (hn : ¬ D k) : w'.heap[k]? = some o := by
  rw [h.block k (Array.getElem?_eq_some_iff.1 hk).1 hn]
  exact hk

theorem Mod.cell {D : Nat → Prop} {w w' : World} (h : Mod D w w') {a : Addr} {v : Value} (hc : w.cell? a = some v) (hn : ¬ D a.block) : w'.cell? a = some v := by
  rw [World.cell?_of_block (h.block a.block (World.block_lt_of_cell? w _ hc) hn)]
  exact hc

theorem Mod.own {D : Nat → Prop} {w w' : World} (h : Mod D w w') {base : Nat} {e : TypeId} {size : Nat} {v : Value} {n : Nat} {xs : List Value} (ho : w.ownsRow base e size v n xs) (hn : ∀ g, v.ownBlock = some g → ¬ D g) : w'.ownsRow base e size v n xs := by
  refine ⟨ho.1, ?_⟩
  rcases ho.2 with h2 | ⟨g, cap, cur, hv, hg, hc, r⟩
  · exact .inl h2
  · refine .inr ⟨g, cap, cur, hv, hg, h.heap hc (hn g (by rw [hv]; rfl)), r⟩

theorem grow_refl {D : Nat → Prop} {w : World} {b : Nat} : grow D w w b ↔ D b := by
  unfold grow
  exact ⟨fun h => by rcases h with h | h; exact h; omega, .inl⟩
end
end Go.Proofs.Ytlopdbhjdijlmaa
