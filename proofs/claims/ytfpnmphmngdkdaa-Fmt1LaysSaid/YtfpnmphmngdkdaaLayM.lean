/-
  What fmt1.Lay does, as a plain function; the sheet's steps from world to world: general lemmas.
-/
import Derived.Test.YtfpnmphmngdkdaaLay1
import Derived.Lib.EndianMore
namespace Go.Proofs.Ytfpnmphmngdkdaa
open Go.ChangeShapes Go.WideShapes Go.ChangeAt Go.RowKit
set_option linter.unusedSimpArgs false
set_option linter.unusedVariables false

theorem ShStep.mono {w w' : World} {p : Nat} {D' D : Nat → Prop} {S : Sh} (h : ShStep w p D' w' S) (hd : ∀ b, D' b → D b) (hl : ∀ b, D b → b < w.heap.size) : ShStep w p D w' S := by
  have hs := h.2.size
  refine ⟨h.1.mono (fun b hb => ?_) (fun b hb => ?_), h.2.mono (fun b _ hb => hd b hb)⟩
  · rcases hb with hb | hb
    · exact .inl (hd b hb)
    · exact .inr hb
  · rcases hb with hb | hb
    · have := hl b hb; omega
    · exact hb.2

theorem ShStep.from {w w2 w' : World} {p : Nat} {D : Nat → Prop} {S S' : Sh} (h : SheetAt w p D S) (hm : Mod nob w w2) (k : ShStep w2 p D w' S') : ShStep w p D w' S' :=
  (ShStep.start h).over hm (k.mono (fun b hb => .inl hb) (fun b hb => by have := h.lt b (grow_refl.1 hb); have := hm.size; omega))

theorem heap_setCells_all (b : Nat) (t : TypeId) : ∀ (vs pre post : List Value) (w : World), w.heap[b]? = some (.cells (pre ++ post).toArray t (0, 0)) → post.length = vs.length →
    (w.setCells b pre.length vs).heap[b]? = some (.cells (pre ++ vs).toArray t (0, 0))
  | [], pre, post, w, h, hl => by
    have : post = [] := List.eq_nil_of_length_eq_zero (by simpa using hl)
    subst this
    exact h
  | v :: vs, pre, post, w, h, hl => by
    cases post with
    | nil => simp at hl
    | cons x post =>
      have h1 := heap_setCell_same w b pre.length _ _ v h
      have e : ((pre ++ x :: post).toArray.setIfInBounds pre.length v) = ((pre ++ [v]) ++ post).toArray := by
        apply Array.toList_inj.1
        simp
      rw [e] at h1
      have := heap_setCells_all b t vs (pre ++ [v]) post _ h1 (by simpa using hl)
      simp only [List.length_append, List.length_cons, List.length_nil, Nat.zero_add, List.append_assoc, List.cons_append, List.nil_append] at this
      exact this

/-- Thirteen noughts, as the walk spells them. -/
abbrev z13 : Array Value := #[.int .i64 0, .int .i64 0, .int .i64 0, .int .i64 0, .int .i64 0, .int .i64 0, .int .i64 0, .int .i64 0, .int .i64 0, .int .i64 0, .int .i64 0, .int .i64 0, .int .i64 0]

theorem arr_there (w : World) (t : TypeId) : (w.alloc (.cells z13 t)).there w.heap.size 0 13 := by
  intro j hj
  rw [Nat.zero_add]
  refine ⟨?_, frozen_of_row _ _ _ _ _ (heap_alloc_new _ _)⟩
  rw [cell_of_row _ _ _ _ _ _ (heap_alloc_new _ _), Array.getElem?_eq_getElem (show j < z13.size from hj)]
  rfl

theorem arr_row (w : World) (t : TypeId) (l : List Value) (hl : l.length = 13) :
    ((w.alloc (.cells z13 t)).setCells w.heap.size 0 l).heap[w.heap.size]? = some (.cells l.toArray t (0, 0)) ∧ Below w.heap.size w ((w.alloc (.cells z13 t)).setCells w.heap.size 0 l) := by
  constructor
  · have := heap_setCells_all w.heap.size t l [] z13.toList (w.alloc (.cells z13 t)) (heap_alloc_new _ _) (by rw [hl]; rfl)
    exact this
  · exact ((Below.refl _ _).alloc (Nat.le_refl _) _).trans (Lib.below_setCells_w (Nat.le_refl _) _ _ _)

/-- An inode of noughts, as the walk spells it. -/
abbrev z18 : Array Value := #[.int .i64 0, .int .i64 0, .int .i64 0, .int .i64 0, .int .i64 0, .int .i64 0, .int .i64 0, .int .i64 0, .int .i64 0, .int .i64 0, .int .i64 0, .int .i64 0, .int .i64 0, .int .i64 0, .int .i64 0, .int .i64 0, .int .i64 0, .slice none 0 0]

theorem inoA_lit0 (f k l s : Int) (ev : Value) : inoA ⟨f, k, l, s, List.replicate 13 0, []⟩ ev = #[.int .i64 f, .int .i64 k, .int .i64 l, .int .i64 s, .int .i64 0, .int .i64 0, .int .i64 0, .int .i64 0, .int .i64 0, .int .i64 0, .int .i64 0, .int .i64 0, .int .i64 0, .int .i64 0, .int .i64 0, .int .i64 0, .int .i64 0, ev] := rfl

theorem inoB_lit0 {w : World} {B : Nat} {f k l s : Int} {ev : Value} (h : w.heap[B]? = some (.cells #[.int .i64 f, .int .i64 k, .int .i64 l, .int .i64 s, .int .i64 0, .int .i64 0, .int .i64 0, .int .i64 0, .int .i64 0, .int .i64 0, .int .i64 0, .int .i64 0, .int .i64 0, .int .i64 0, .int .i64 0, .int .i64 0, .int .i64 0, ev] 37 (0, 0))) :
    InoB w B ⟨f, k, l, s, List.replicate 13 0, []⟩ ev := ⟨by rw [inoA_lit0]; exact h, by simp⟩

theorem ino_there (w : World) (t : TypeId) : (w.alloc (.cells z18 t)).there w.heap.size 0 18 := by
  intro j hj
  rw [Nat.zero_add]
  refine ⟨?_, frozen_of_row _ _ _ _ _ (heap_alloc_new _ _)⟩
  rw [cell_of_row _ _ _ _ _ _ (heap_alloc_new _ _), Array.getElem?_eq_getElem (show j < z18.size from hj)]
  rfl

theorem ino_row (w : World) (t : TypeId) (l : List Value) (hl : l.length = 18) :
    ((w.alloc (.cells z18 t)).setCells w.heap.size 0 l).heap[w.heap.size]? = some (.cells l.toArray t (0, 0)) ∧ Below w.heap.size w ((w.alloc (.cells z18 t)).setCells w.heap.size 0 l) := by
  constructor
  · exact heap_setCells_all w.heap.size t l [] z18.toList (w.alloc (.cells z18 t)) (heap_alloc_new _ _) (by rw [hl]; rfl)
  · exact ((Below.refl _ _).alloc (Nat.le_refl _) _).trans (Lib.below_setCells_w (Nat.le_refl _) _ _ _)

/-- How many blocks a directory takes; whether it, or the file, takes a list besides. -/
def need1 (n : Ino) : Nat := (n.ents.length + 3) / 4
open Classical in
noncomputable def more1 (n : Ino) : Nat := if 5 < need1 n ∨ LongP n.bl then 1 else 0
def inoAt (i : Int) : Int := if i < 0 ∨ 32 ≤ i then -1 else 824 + i * 8
def listOf (xs : List Nat) (d m : Nat) : Int := if m = 1 then ((xs.getD d 0 : Nat) : Int) else 0
def blOf (n : Ino) (xs : List Nat) : List Int := (xs.take (need1 n)).map (fun (b : Nat) => (b : Int)) ++ n.bl.drop (need1 n)
noncomputable def lay1P (S : Sh) (at_ : Int) (n : Ino) (xs : List Nat) : Sh :=
  entriesS (numbersS ((S.put at_ (tagW n)).put (at_ + 1) n.size) at_ (blOf n xs) (listOf xs (need1 n) (more1 n))) xs n.ents
noncomputable def lay1T (S : Sh) (n : Ino) : Sh × List Nat := takeFrom 255 S 1 (need1 n + more1 n)
noncomputable def lay1S (S : Sh) (i : Int) (n : Ino) : Sh := lay1P (lay1T S n).1 (824 + i * 8) n (lay1T S n).2

theorem blOf_len (n : Ino) (hl : n.bl.length = 13) (xs : List Nat) (hx : need1 n ≤ xs.length) (h13 : need1 n ≤ 13) : (blOf n xs).length = 13 := by
  unfold blOf
  rw [List.length_append, List.length_map, List.length_take, List.length_drop]
  omega

theorem more1_le (n : Ino) : more1 n ≤ 1 := by
  unfold more1
  split <;> omega
end Go.Proofs.Ytfpnmphmngdkdaa
