/-
  Inodes and directories' entries as values and in memory: general lemmas. No walk here, no condition.
-/
import Derived.Test.YtfpnmphmngdkdaaLib
import Derived.Test.YtfpnmphmngdkdaaApp
namespace Go.Proofs.Ytfpnmphmngdkdaa
open Go.ChangeShapes Go.WideShapes Go.ChangeAt Go.RowKit
set_option linter.unusedSimpArgs false
set_option linter.unusedVariables false

structure En where
  name : ByteArray
  ino : Int
instance : Inhabited En := ⟨⟨⟨#[]⟩, 0⟩⟩

structure En.Ok (x : En) : Prop where
  name : x.name.size ≤ maxLen
  ino : -9223372036854775808 ≤ x.ino ∧ x.ino ≤ 9223372036854775807

structure Ino where
  format : Int
  kind : Int
  links : Int
  size : Int
  bl : List Int
  ents : List En
instance : Inhabited Ino := ⟨⟨0, 0, 0, 0, List.replicate 13 0, []⟩⟩

def i64 (x : Int) : Prop := -9223372036854775808 ≤ x ∧ x ≤ 9223372036854775807

structure Ino.Ok (n : Ino) : Prop where
  format : i64 n.format
  kind : i64 n.kind
  links : i64 n.links
  size : i64 n.size
  len : n.bl.length = 13
  bl : ∀ x ∈ n.bl, i64 x
  ents : ∀ x ∈ n.ents, x.Ok

/-- An inode's cells; its entries' slice is ev. -/
def inoL (n : Ino) (ev : Value) : List Value := .int .i64 n.format :: .int .i64 n.kind :: .int .i64 n.links :: .int .i64 n.size :: (n.bl.map (Value.int .i64) ++ [ev])
def inoA (n : Ino) (ev : Value) : Array Value := (inoL n ev).toArray

theorem inoL_len {n : Ino} (h : n.bl.length = 13) (ev : Value) : (inoL n ev).length = 18 := by simp [inoL, h]
theorem inoA_size {n : Ino} (h : n.bl.length = 13) (ev : Value) : (inoA n ev).size = 18 := by simp [inoA, inoL_len h]

theorem inoL_one {n : Ino} {ev : Value} (he : ev.oneCell' = true) : ∀ u ∈ inoL n ev, u.oneCell' = true := by
  intro u hu
  unfold inoL at hu
  simp only [List.mem_cons, List.mem_append, List.mem_map, List.not_mem_nil, or_false] at hu
  rcases hu with rfl | rfl | rfl | rfl | ⟨x, -, rfl⟩ | rfl
  · rfl
  · rfl
  · rfl
  · rfl
  · rfl
  · exact he

/-- Cells that begin at an offset of a block are an inode. -/
structure InoAt (w : World) (B o : Nat) (n : Ino) (ev : Value) : Prop where
  c0 : w.cell? ⟨B, o, none⟩ = some (.int .i64 n.format)
  c1 : w.cell? ⟨B, o + 1, none⟩ = some (.int .i64 n.kind)
  c2 : w.cell? ⟨B, o + 2, none⟩ = some (.int .i64 n.links)
  c3 : w.cell? ⟨B, o + 3, none⟩ = some (.int .i64 n.size)
  bl : ∀ k, k < 13 → w.cell? ⟨B, o + (4 + k), none⟩ = some (.int .i64 (n.bl.getD k 0))
  ev : w.cell? ⟨B, o + 17, none⟩ = some ev

theorem inoL_get {n : Ino} (h : n.bl.length = 13) (ev : Value) : (inoL n ev)[0]? = some (.int .i64 n.format) ∧ (inoL n ev)[1]? = some (.int .i64 n.kind) ∧ (inoL n ev)[2]? = some (.int .i64 n.links) ∧ (inoL n ev)[3]? = some (.int .i64 n.size) ∧
    (∀ k, k < 13 → (inoL n ev)[4 + k]? = some (.int .i64 (n.bl.getD k 0))) ∧ (inoL n ev)[17]? = some ev := by
  refine ⟨rfl, rfl, rfl, rfl, fun k hk => ?_, ?_⟩
  · unfold inoL
    rw [show 4 + k = k + 1 + 1 + 1 + 1 by omega, List.getElem?_cons_succ, List.getElem?_cons_succ, List.getElem?_cons_succ, List.getElem?_cons_succ, List.getElem?_append_left (by simp [h, hk]), List.getElem?_map,
      List.getElem?_eq_getElem (by omega), List.getD_eq_getElem?_getD, List.getElem?_eq_getElem (by omega)]
    rfl
  · unfold inoL
    rw [show (17 : Nat) = 13 + 1 + 1 + 1 + 1 by omega, List.getElem?_cons_succ, List.getElem?_cons_succ, List.getElem?_cons_succ, List.getElem?_cons_succ, List.getElem?_append_right (by simp [h])]
    simp [h]

theorem InoAt.range {w : World} {B o : Nat} {n : Ino} {ev : Value} (h : InoAt w B o n ev) (hl : n.bl.length = 13) : w.rangeAt B o (inoL n ev) := by
  intro j u hu
  obtain ⟨g0, g1, g2, g3, gb, ge⟩ := inoL_get hl ev
  have hj : j < 18 := by
    have := (List.getElem?_eq_some_iff.1 hu).1
    rw [inoL_len hl] at this
    exact this
  rcases (show j = 0 ∨ j = 1 ∨ j = 2 ∨ j = 3 ∨ (4 ≤ j ∧ j < 17) ∨ j = 17 by omega) with rfl | rfl | rfl | rfl | ⟨h4, h17⟩ | rfl
  · rw [g0] at hu; rw [Nat.add_zero, ← hu]; exact h.c0
  · rw [g1] at hu; rw [← hu]; exact h.c1
  · rw [g2] at hu; rw [← hu]; exact h.c2
  · rw [g3] at hu; rw [← hu]; exact h.c3
  · have hb := gb (j - 4) (by omega)
    have hc := h.bl (j - 4) (by omega)
    rw [show 4 + (j - 4) = j by omega] at hb hc
    rw [hb] at hu
    rw [← hu]
    exact hc
  · rw [ge] at hu; rw [← hu]; exact h.ev

/-- Its blocks, as a row. -/
theorem InoAt.blocks {w : World} {B o : Nat} {n : Ino} {ev : Value} (h : InoAt w B o n ev) (hl : n.bl.length = 13) : w.rangeAt B (o + 4) (n.bl.map (Value.int .i64)) := by
  intro j u hu
  have hj : j < 13 := by
    have := (List.getElem?_eq_some_iff.1 hu).1
    simpa [hl] using this
  have hc := h.bl j hj
  rw [List.getElem?_map, List.getElem?_eq_getElem (by omega)] at hu
  rw [List.getD_eq_getElem?_getD, List.getElem?_eq_getElem (by omega)] at hc
  rw [show o + 4 + j = o + (4 + j) by omega, ← hu]
  exact hc

theorem InoAt.mod {w w' : World} {B o : Nat} {n : Ino} {ev : Value} (h : InoAt w B o n ev) {D : Nat → Prop} (hm : Mod D w w') (hd : ¬ D B) : InoAt w' B o n ev :=
  ⟨hm.cell h.c0 hd, hm.cell h.c1 hd, hm.cell h.c2 hd, hm.cell h.c3 hd, fun k hk => hm.cell (h.bl k hk) hd, hm.cell h.ev hd⟩

/-- A block that is an inode whole. -/
def InoB (w : World) (B : Nat) (n : Ino) (ev : Value) : Prop := w.heap[B]? = some (.cells (inoA n ev) 37 (0, 0)) ∧ n.bl.length = 13

theorem InoB.at {w : World} {B : Nat} {n : Ino} {ev : Value} (h : InoB w B n ev) : InoAt w B 0 n ev := by
  obtain ⟨hh, hl⟩ := h
  obtain ⟨g0, g1, g2, g3, gb, ge⟩ := inoL_get hl ev
  have hc : ∀ j, w.cell? ⟨B, j, none⟩ = (inoL n ev)[j]? := fun j => by rw [cell_of_row _ _ _ _ _ _ hh]; simp [inoA]
  refine ⟨by rw [hc, g0], by rw [hc, Nat.zero_add, g1], by rw [hc, Nat.zero_add, g2], by rw [hc, Nat.zero_add, g3], fun k hk => by rw [hc, Nat.zero_add]; exact gb k hk, by rw [hc, Nat.zero_add, ge]⟩

theorem InoB.frozen {w : World} {B : Nat} {n : Ino} {ev : Value} (h : InoB w B n ev) (j : Nat) : w.frozen? ⟨B, j, none⟩ = false := frozen_of_row _ _ _ _ _ h.1
theorem InoB.lt {w : World} {B : Nat} {n : Ino} {ev : Value} (h : InoB w B n ev) : B < w.heap.size := lt_of_block h.1
theorem InoB.mod {w w' : World} {B : Nat} {n : Ino} {ev : Value} (h : InoB w B n ev) {D : Nat → Prop} (hm : Mod D w w') (hd : ¬ D B) : InoB w' B n ev := ⟨hm.heap h.1 hd, h.2⟩
theorem InoB.new (w : World) {n : Ino} (h : n.bl.length = 13) (ev : Value) : InoB (w.alloc (.cells (inoA n ev) 37)) w.heap.size n ev := ⟨heap_alloc_new _ _, h⟩

theorem list_set_mid {α : Type} (a : List α) (v : α) : ∀ (l : List α) (k : Nat), (a ++ l).set (a.length + k) v = a ++ l.set k v := by
  induction a with
  | nil => intro l k; simp
  | cons x a ih => intro l k; simp only [List.cons_append, List.length_cons, show a.length + 1 + k = (a.length + k) + 1 by omega, List.set_cons_succ, ih]

/-- A block's number stored. -/
theorem InoB.setBl {w : World} {B : Nat} {n : Ino} {ev : Value} (h : InoB w B n ev) (k : Nat) (hk : k < 13) (x : Int) : InoB (w.setCell ⟨B, 4 + k, none⟩ (.int .i64 x)) B { n with bl := n.bl.set k x } ev := by
  refine ⟨?_, by simp [h.2]⟩
  rw [heap_setCell_same w B (4 + k) _ _ _ h.1]
  congr 2
  unfold inoA
  apply Array.toList_inj.1
  simp only [Array.toList_setIfInBounds]
  unfold inoL
  rw [show 4 + k = k + 1 + 1 + 1 + 1 by omega]
  simp only [List.set_cons_succ, List.map_set]
  have hlen : (n.bl.map (Value.int .i64)).length = 13 := by simp [h.2]
  rw [List.set_append_left _ _ (by omega)]

/-- Its entries' slice stored. -/
theorem InoB.setEv {w : World} {B : Nat} {n : Ino} {ev : Value} (h : InoB w B n ev) (l : List En) (x : Value) : InoB (w.setCell ⟨B, 17, none⟩ x) B { n with ents := l } x := by
  refine ⟨?_, h.2⟩
  rw [heap_setCell_same w B 17 _ _ _ h.1]
  congr 2
  unfold inoA
  apply Array.toList_inj.1
  simp only [Array.toList_setIfInBounds]
  unfold inoL
  have hlen : (n.bl.map (Value.int .i64)).length = 13 := by simp [h.2]
  simp only [List.set_cons_succ]
  rw [List.set_append_right _ _ (by omega), hlen]
  rfl

/-- Numbers stored. -/
theorem InoB.setFormat {w : World} {B : Nat} {n : Ino} {ev : Value} (h : InoB w B n ev) (x : Int) : InoB (w.setCell ⟨B, 0, none⟩ (.int .i64 x)) B { n with format := x } ev := by
  refine ⟨?_, h.2⟩
  rw [heap_setCell_same w B 0 _ _ _ h.1]
  congr 2
theorem InoB.setSize {w : World} {B : Nat} {n : Ino} {ev : Value} (h : InoB w B n ev) (x : Int) : InoB (w.setCell ⟨B, 3, none⟩ (.int .i64 x)) B { n with size := x } ev := by
  refine ⟨?_, h.2⟩
  rw [heap_setCell_same w B 3 _ _ _ h.1]
  congr 2

theorem below_dN {B : Nat} {a w : World} (h : Below B a w) (n : Nat) : Below B a (w.drewN n) := ⟨h.os, h.tape, h.output, h.size, h.block⟩

/-! Entries -/

def enC (l : List En) : List Value := l.flatMap fun x => [Value.string x.name, .int .i64 x.ino]

theorem enC_append (a b : List En) : enC (a ++ b) = enC a ++ enC b := by simp [enC]

theorem enC_len (l : List En) : (enC l).length = l.length * 2 := by
  induction l with
  | nil => rfl
  | cons x l ih =>
    have : enC (x :: l) = [.string x.name, .int .i64 x.ino] ++ enC l := rfl
    rw [this, List.length_append, ih]
    simp; omega

theorem enC_one (l : List En) : ∀ u ∈ enC l, u.oneCell' = true := by
  intro u hu
  unfold enC at hu
  rw [List.mem_flatMap] at hu
  obtain ⟨x, _, hu⟩ := hu
  simp at hu
  rcases hu with rfl | rfl <;> rfl

theorem enC_split (l : List En) (k : Nat) (hk : k < l.length) : enC l = enC (l.take k) ++ ([.string (l.getD k default).name, .int .i64 (l.getD k default).ino] ++ enC (l.drop (k + 1))) := by
  have hx : l.getD k default = l[k] := by rw [List.getD_eq_getElem?_getD, List.getElem?_eq_getElem hk]; rfl
  have hsp : l = l.take k ++ l[k] :: l.drop (k + 1) := by rw [List.getElem_cons_drop, List.take_append_drop]
  rw [hx]
  exact (congrArg enC hsp).trans (enC_append _ _)

theorem enC_get (l : List En) (k : Nat) (hk : k < l.length) : (enC l)[k * 2]? = some (.string (l.getD k default).name) ∧ (enC l)[k * 2 + 1]? = some (.int .i64 (l.getD k default).ino) := by
  have htk : (l.take k).length = k := by simp; omega
  have hcs := enC_split l k hk
  constructor
  · rw [hcs, List.getElem?_append_right (by rw [enC_len, htk]; omega), enC_len, htk, Nat.sub_self]; rfl
  · rw [hcs, List.getElem?_append_right (by rw [enC_len, htk]; omega), enC_len, htk, Nat.add_sub_cancel_left]; rfl

/-- What a slice value of entries holds, in whatever block. -/
def HoldsE (w : World) (v : Value) (l : List En) : Prop :=
  ∃ ao c, v = .slice ao l.length c ∧ l.length ≤ c ∧ c ≤ maxLen ∧ (ao = none → c = 0) ∧ ∀ j, j < l.length → ∃ g o, ao = some ⟨g, o, none⟩ ∧ w.cell? ⟨g, o + j * 2, none⟩ = some (.string (l.getD j default).name) ∧ w.cell? ⟨g, o + j * 2 + 1, none⟩ = some (.int .i64 (l.getD j default).ino)

theorem HoldsE.nil (w : World) : HoldsE w (.slice none 0 0) [] := ⟨none, 0, rfl, Nat.le_refl _, Nat.zero_le _, fun _ => rfl, fun j h => by simp at h⟩

theorem HoldsE.mod {w w' : World} {v : Value} {l : List En} (h : HoldsE w v l) {D : Nat → Prop} (hm : Mod D w w') (hd : l ≠ [] → ∀ g, v.ownBlock = some g → ¬ D g) : HoldsE w' v l := by
  obtain ⟨ao, c, rfl, h1, h2, h3, h4⟩ := h
  refine ⟨ao, c, rfl, h1, h2, h3, fun j hj => ?_⟩
  obtain ⟨g, o, rfl, e1, e2⟩ := h4 j hj
  have hn : ¬ D g := hd (fun e => by rw [e] at hj; simp at hj) g rfl
  exact ⟨g, o, rfl, hm.cell e1 hn, hm.cell e2 hn⟩

theorem HoldsE.below {w w' : World} {v : Value} {l : List En} (h : HoldsE w v l) (hb : Below w.heap.size w w') : HoldsE w' v l := h.mod (mod_of_below hb) (fun _ _ _ h => h)

theorem HoldsE.lt {w : World} {v : Value} {l : List En} (h : HoldsE w v l) (hl : l ≠ []) : ∀ g, v.ownBlock = some g → g < w.heap.size := by
  obtain ⟨ao, c, rfl, h1, h2, h3, h4⟩ := h
  obtain ⟨g, o, rfl, hc, -⟩ := h4 0 (List.length_pos_iff.2 hl)
  intro g' e
  cases e
  exact World.block_lt_of_cell? w _ hc

theorem HoldsE.cells {w : World} {v : Value} {l : List En} (h : HoldsE w v l) : HoldsC w v l.length (enC l) := by
  obtain ⟨ao, c, rfl, h1, h2, h3, h4⟩ := h
  refine ⟨ao, c, rfl, h1, h2, fun e => ⟨by have := h3 e; omega, h3 e⟩, fun ad ha j u hj => ?_⟩
  subst ha
  have hjl := (List.getElem?_eq_some_iff.1 hj).1
  rw [enC_len] at hjl
  obtain ⟨g, o, e, e1, e2⟩ := h4 (j / 2) (by omega)
  simp only [Option.some.injEq] at e
  subst e
  obtain ⟨f1, f2⟩ := enC_get l (j / 2) (by omega)
  rw [Addr.add_lit]
  rcases Nat.mod_two_eq_zero_or_one j with h | h
  · rw [show j / 2 * 2 = j by omega] at e1 f1
    rw [f1] at hj
    rw [← hj]
    exact e1
  · rw [show j / 2 * 2 + 1 = j by omega] at f2
    rw [show o + j / 2 * 2 + 1 = o + j by omega] at e2
    rw [f2] at hj
    rw [← hj]
    exact e2

theorem holdsE_of_own {w : World} {base m : Nat} {v : Value} {l : List En} (hm : m = l.length) (h : w.ownsRow base 110 2 v m (enC l)) : HoldsE w v l := by
  obtain ⟨ao, cap, rfl, h1, h2, -⟩ := own_shape h
  refine ⟨ao, cap, by rw [hm], by omega, h2, ?_, fun k hk => ?_⟩
  · rintro rfl
    rcases h.2 with ⟨hv, _⟩ | ⟨g, c, cur, hv, _⟩
    · simp at hv; exact hv.2
    · simp at hv
  · obtain ⟨g, cap', e, -, -, -, -⟩ := own_some h (by omega)
    simp only [Value.slice.injEq] at e
    obtain ⟨rfl, -, rfl⟩ := e
    obtain ⟨f1, f2⟩ := enC_get l k hk
    refine ⟨g, 0, rfl, ?_, ?_⟩
    · have := h.cells rfl (k * 2) _ f1
      rwa [Addr.add_lit] at this
    · have := h.cells rfl (k * 2 + 1) _ f2
      rwa [Addr.add_lit, ← Nat.add_assoc] at this
end Go.Proofs.Ytfpnmphmngdkdaa
