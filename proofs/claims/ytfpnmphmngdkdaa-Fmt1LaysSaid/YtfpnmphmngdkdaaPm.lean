/-
  A memory that may last, in memory; what its small calls answer: contracts. No condition but the bounds that are typed.
-/
import Derived.Test.YtfpnmphmngdkdaaPmM
import Derived.Test.YtfpnmphmngdkdaaTx2
namespace Go.Proofs.Ytfpnmphmngdkdaa
open Go.ChangeShapes Go.WideShapes Go.ChangeAt Go.RowKit
set_option linter.unusedSimpArgs false
set_option linter.unusedVariables false

/-- A slice of n words that is the memory's own: nil, or a block's first cells. -/
def NowR (w : World) (v : Value) (n : Nat) (f : Nat → Int) : Prop :=
  (v = .slice none 0 0 ∧ n = 0) ∨ ∃ g cap cs, v = .slice (some ⟨g, 0, none⟩) n cap ∧ w.heap[g]? = some (.cells cs 41 (0, 0)) ∧ n ≤ cap ∧ cap ≤ maxLen ∧ cs.size = cap ∧ ∀ i, i < n → cs[i]? = some (.int .u64 (f i))

theorem NowR.mod {w w' : World} {v : Value} {n : Nat} {f : Nat → Int} (h : NowR w v n f) {D : Nat → Prop} (hm : Mod D w w') (hd : ∀ g, v.ownBlock = some g → ¬ D g) : NowR w' v n f := by
  rcases h with h | ⟨g, cap, cs, rfl, h1, r⟩
  · exact .inl h
  · exact .inr ⟨g, cap, cs, rfl, hm.heap h1 (hd g rfl), r⟩

theorem NowR.set {w : World} {g n cap : Nat} {f : Nat → Int} (h : NowR w (.slice (some ⟨g, 0, none⟩) n cap) n f) (i : Nat) (v : Int) : NowR (w.setCell ⟨g, i, none⟩ (.int .u64 v)) (.slice (some ⟨g, 0, none⟩) n cap) n (upd f i v) := by
  rcases h with ⟨h, _⟩ | ⟨g', cap', cs, hv, h1, h2, h3, h4, h5⟩
  · cases h
  · simp only [Value.slice.injEq, Option.some.injEq, Addr.mk.injEq, and_true, true_and] at hv
    obtain ⟨rfl, rfl⟩ := hv
    refine .inr ⟨g, cap, _, rfl, heap_setCell_same w g i cs _ _ h1, h2, h3, by simpa using h4, fun k hk => ?_⟩
    simp only [upd]
    by_cases e : k = i
    · subst e
      rw [if_pos rfl, Array.getElem?_setIfInBounds]
      simp only [if_true]
      rw [if_pos (by omega)]
    · rw [if_neg e, Array.getElem?_setIfInBounds]
      rw [if_neg (fun h => e h.symm)]
      exact h5 k hk

theorem NowR.shape {w : World} {v : Value} {n : Nat} {f : Nat → Int} (h : NowR w v n f) : ∃ ao cap, v = .slice ao n cap ∧ n ≤ cap ∧ cap ≤ maxLen := by
  rcases h with ⟨rfl, rfl⟩ | ⟨g, cap, cs, rfl, h1, h2, h3, h4, h5⟩
  · exact ⟨none, 0, rfl, Nat.le_refl _, Nat.zero_le _⟩
  · exact ⟨_, cap, rfl, h2, h3⟩

theorem NowR.pos {w : World} {v : Value} {n : Nat} {f : Nat → Int} (h : NowR w v n f) (hn : 0 < n) : ∃ g cap, v = .slice (some ⟨g, 0, none⟩) n cap ∧ n ≤ cap ∧ cap ≤ maxLen ∧ g < w.heap.size ∧ ∀ i, i < n → w.cell? ⟨g, i, none⟩ = some (.int .u64 (f i)) ∧ w.frozen? ⟨g, i, none⟩ = false := by
  rcases h with ⟨rfl, rfl⟩ | ⟨g, cap, cs, rfl, h1, h2, h3, h4, h5⟩
  · omega
  · exact ⟨g, cap, rfl, h2, h3, lt_of_block h1, fun i hi => ⟨by rw [cell_of_row _ _ _ _ _ _ h1]; exact h5 i hi, frozen_of_row _ _ _ _ _ h1⟩⟩

theorem NowR.of_own {w : World} {base : Nat} {v : Value} {xs : List Int} {n : Nat} (hn : n = xs.length) (h : w.ownsRow base 41 1 v n (u64s xs)) : NowR w v n (fun i => xs.getD i 0) := by
  rcases h.2 with ⟨rfl, h0⟩ | ⟨g, cap, cur, rfl, hb, hg, hnc, hm, hsz, htk⟩
  · exact .inl ⟨by rfl, h0⟩
  · refine .inr ⟨g, cap, cur, rfl, hg, hnc, hm, by simpa using hsz, fun i hi => ?_⟩
    have : (cur.toList.take (n * 1))[i]? = (u64s xs)[i]? := by rw [htk]
    rw [List.getElem?_take, if_pos (by omega)] at this
    have e : (u64s xs)[i]? = some (.int .u64 (xs.getD i 0)) := by
      unfold u64s
      rw [List.getElem?_map, List.getD_eq_getElem?_getD, List.getElem?_eq_getElem (by omega)]
      rfl
    rw [e] at this
    simpa using this

structure PmR (w : World) (p : Nat) (D : Nat → Prop) (S : Pm) (v : Value) (ob fb : Nat) : Prop where
  head : w.heap[p]? = some (.cells #[v, .map (some ob), .map (some fb), .int .i64 S.fuse, .int .i64 S.deeds, .bool S.gone] 108 (0, 0))
  now : NowR w v S.n S.now
  old : MapR w ob S.n S.old
  fl : MapR w fb S.n S.fl
  ok : S.Ok
  po : p ≠ ob
  pf : p ≠ fb
  of : ob ≠ fb
  vb : ∀ g, v.ownBlock = some g → g ≠ p ∧ g ≠ ob ∧ g ≠ fb
  dp : D p
  dob : D ob
  dfb : D fb
  dv : ∀ g, v.ownBlock = some g → D g
  lt : ∀ b, D b → b < w.heap.size

def PmAt (w : World) (p : Nat) (D : Nat → Prop) (S : Pm) : Prop := ∃ v ob fb, PmR w p D S v ob fb

theorem PmAt.ok {w : World} {p : Nat} {D : Nat → Prop} {S : Pm} (h : PmAt w p D S) : S.Ok := by
  obtain ⟨_, _, _, h⟩ := h
  exact h.ok

theorem PmAt.lt {w : World} {p : Nat} {D : Nat → Prop} {S : Pm} (h : PmAt w p D S) : ∀ b, D b → b < w.heap.size := by
  obtain ⟨_, _, _, h⟩ := h
  exact h.lt

theorem PmR.mod {w w' : World} {p : Nat} {D D0 : Nat → Prop} {S : Pm} {v : Value} {ob fb : Nat} (h : PmR w p D S v ob fb) (hm : Mod D0 w w') (hd : ∀ b, D b → ¬ D0 b) : PmR w' p D S v ob fb :=
  ⟨hm.heap h.head (hd _ h.dp), h.now.mod hm (fun g hg => hd _ (h.dv g hg)), h.old.mod hm (hd _ h.dob), h.fl.mod hm (hd _ h.dfb), h.ok, h.po, h.pf, h.of, h.vb, h.dp, h.dob, h.dfb, h.dv, fun b hb => Nat.lt_of_lt_of_le (h.lt b hb) hm.size⟩

theorem PmAt.mod {w w' : World} {p : Nat} {D D0 : Nat → Prop} {S : Pm} (h : PmAt w p D S) (hm : Mod D0 w w') (hd : ∀ b, D b → ¬ D0 b) : PmAt w' p D S := by
  obtain ⟨v, ob, fb, h⟩ := h
  exact ⟨v, ob, fb, h.mod hm hd⟩

theorem PmAt.mono {w : World} {p : Nat} {D D' : Nat → Prop} {S : Pm} (h : PmAt w p D S) (hd : ∀ b, D b → D' b) (hl : ∀ b, D' b → b < w.heap.size) : PmAt w p D' S := by
  obtain ⟨v, ob, fb, h⟩ := h
  exact ⟨v, ob, fb, h.head, h.now, h.old, h.fl, h.ok, h.po, h.pf, h.of, h.vb, hd _ h.dp, hd _ h.dob, hd _ h.dfb, fun g hg => hd _ (h.dv g hg), hl⟩

/-- The head written. -/
theorem PmR.setHead {w w' : World} {p : Nat} {D : Nat → Prop} {S S' : Pm} {v : Value} {ob fb : Nat} (h : PmR w p D S v ob fb) (hm : Mod (fun b => b = p) w w')
    (hh : w'.heap[p]? = some (.cells #[v, .map (some ob), .map (some fb), .int .i64 S'.fuse, .int .i64 S'.deeds, .bool S'.gone] 108 (0, 0)))
    (hn : S'.n = S.n) (h1 : S'.now = S.now) (h2 : S'.old = S.old) (h3 : S'.fl = S.fl) (hok : S'.Ok) : PmR w' p D S' v ob fb :=
  ⟨hh, by rw [hn, h1]; exact h.now.mod hm (fun g hg => (h.vb g hg).1), by rw [hn, h2]; exact h.old.mod hm h.po.symm, by rw [hn, h3]; exact h.fl.mod hm h.pf.symm, hok, h.po, h.pf, h.of, h.vb, h.dp, h.dob, h.dfb, h.dv, fun b hb => Nat.lt_of_lt_of_le (h.lt b hb) hm.size⟩

/-- The one map written. -/
theorem PmR.setOld {w w' : World} {p : Nat} {D : Nat → Prop} {S : Pm} {v : Value} {ob fb : Nat} {f : Nat → Option Int} (h : PmR w p D S v ob fb) (hg : w.grownBy w' (some ob)) (hf : MapR w' ob S.n f) (hok : ({ S with old := f } : Pm).Ok) :
    PmR w' p D { S with old := f } v ob fb := by
  have hm := mod_of_grown hg
  exact ⟨hm.heap h.head (fun e => h.po (by cases e; rfl)), h.now.mod hm (fun g hg e => (h.vb g hg).2.1 (by cases e; rfl)), hf, h.fl.mod hm (fun e => h.of (by cases e; rfl)), hok, h.po, h.pf, h.of, h.vb, h.dp, h.dob, h.dfb, h.dv, fun b hb => Nat.lt_of_lt_of_le (h.lt b hb) hm.size⟩

/-- The other map written. -/
theorem PmR.setFl {w w' : World} {p : Nat} {D : Nat → Prop} {S : Pm} {v : Value} {ob fb : Nat} {f : Nat → Option Int} (h : PmR w p D S v ob fb) (hg : w.grownBy w' (some fb)) (hf : MapR w' fb S.n f) (hok : ({ S with fl := f } : Pm).Ok) :
    PmR w' p D { S with fl := f } v ob fb := by
  have hm := mod_of_grown hg
  exact ⟨hm.heap h.head (fun e => h.pf (by cases e; rfl)), h.now.mod hm (fun g hg e => (h.vb g hg).2.2 (by cases e; rfl)), h.old.mod hm (fun e => h.of (by cases e; rfl)), hf, hok, h.po, h.pf, h.of, h.vb, h.dp, h.dob, h.dfb, h.dv, fun b hb => Nat.lt_of_lt_of_le (h.lt b hb) hm.size⟩

/-- A word written. -/
theorem PmR.setNow {w : World} {p : Nat} {D : Nat → Prop} {S : Pm} {g cap ob fb : Nat} (h : PmR w p D S (.slice (some ⟨g, 0, none⟩) S.n cap) ob fb) (i : Nat) (x : Int) (h0 : 0 ≤ x) (h1 : x < 18446744073709551616) :
    PmR (w.setCell ⟨g, i, none⟩ (.int .u64 x)) p D { S with now := upd S.now i x } (.slice (some ⟨g, 0, none⟩) S.n cap) ob fb := by
  have hb := h.vb g rfl
  have hm : Mod (fun b => b = g) w (w.setCell ⟨g, i, none⟩ (.int .u64 x)) := (Mod.refl (fun b => b = g) w).setCell (a := ⟨g, i, none⟩) (.inl rfl) _
  refine ⟨hm.heap h.head (fun e => hb.1 e.symm), h.now.set i x, h.old.mod hm (fun e => hb.2.1 e.symm), h.fl.mod hm (fun e => hb.2.2 e.symm), ⟨h.ok.n, fun k => ?_, h.ok.old, h.ok.fl, h.ok.fuse⟩, h.po, h.pf, h.of, h.vb, h.dp, h.dob, h.dfb, h.dv, fun b hb => Nat.lt_of_lt_of_le (h.lt b hb) hm.size⟩
  simp only [upd]
  split
  · exact ⟨h0, h1⟩
  · exact h.ok.now k

/-- The cells of the head. -/
theorem PmR.cells {w : World} {p : Nat} {D : Nat → Prop} {S : Pm} {v : Value} {ob fb : Nat} (h : PmR w p D S v ob fb) :
    w.cell? ⟨p, 0, none⟩ = some v ∧ w.cell? ⟨p, 1, none⟩ = some (.map (some ob)) ∧ w.cell? ⟨p, 2, none⟩ = some (.map (some fb)) ∧ w.cell? ⟨p, 3, none⟩ = some (.int .i64 S.fuse) ∧ w.cell? ⟨p, 4, none⟩ = some (.int .i64 S.deeds) ∧ w.cell? ⟨p, 5, none⟩ = some (.bool S.gone) :=
  ⟨by rw [cell_of_row _ _ _ _ _ _ h.head]; rfl, by rw [cell_of_row _ _ _ _ _ _ h.head]; rfl, by rw [cell_of_row _ _ _ _ _ _ h.head]; rfl, by rw [cell_of_row _ _ _ _ _ _ h.head]; rfl, by rw [cell_of_row _ _ _ _ _ _ h.head]; rfl, by rw [cell_of_row _ _ _ _ _ _ h.head]; rfl⟩

theorem PmR.frozen {w : World} {p : Nat} {D : Nat → Prop} {S : Pm} {v : Value} {ob fb : Nat} (h : PmR w p D S v ob fb) (j : Nat) : w.frozen? ⟨p, j, none⟩ = false := frozen_of_row _ _ _ _ _ h.head

theorem pm_len {w : World} {p : Nat} {D : Nat → Prop} {S : Pm} (h : PmAt w p D S) :
    Calls Try.prog 56 #[.pointer (some ⟨p, 0, none⟩)] w fun e w' => e = .returned (.int .i64 S.n) ∧ w = w' := by
  obtain ⟨v, ob, fb, h⟩ := h
  obtain ⟨ao, cap, rfl, -, -⟩ := h.now.shape
  obtain ⟨c0, -, -, -, -, -⟩ := h.cells
  clear h
  go_enter Try.func56, Try.ntmps56
  go_wp2
  go_ret
  exact ⟨rfl, rfl⟩

theorem pm_deeds {w : World} {p : Nat} {D : Nat → Prop} {S : Pm} (h : PmAt w p D S) :
    Calls Try.prog 20 #[.pointer (some ⟨p, 0, none⟩)] w fun e w' => e = .returned (.int .i64 S.deeds) ∧ w = w' := by
  obtain ⟨v, ob, fb, h⟩ := h
  obtain ⟨-, -, -, -, c4, -⟩ := h.cells
  clear h
  go_enter Try.func20, Try.ntmps20
  go_wp2
  go_ret
  exact ⟨rfl, rfl⟩

theorem pm_dirty {w : World} {p : Nat} {D : Nat → Prop} {S : Pm} (h : PmAt w p D S) :
    Calls Try.prog 50 #[.pointer (some ⟨p, 0, none⟩)] w fun e w' => e = .returned (.int .i64 S.dirty) ∧ w = w' := by
  obtain ⟨v, ob, fb, h⟩ := h
  obtain ⟨-, c1, -, -, -, -⟩ := h.cells
  have HO := Lib.hid h.old
  clear h
  go_enter Try.func50, Try.ntmps50
  go_wp2_with (at_len; refine wp_lenR rfl _ rfl ob S.n S.old rfl HO.out ?_)
  go_ret
  exact ⟨rfl, rfl⟩

theorem pm_may {w : World} {p : Nat} {D : Nat → Prop} {S : Pm} (h : PmAt w p D S) (i : Int) :
    Calls Try.prog 106 #[.pointer (some ⟨p, 0, none⟩), .int .i64 i] w fun e w' => e = .returned (.int .i64 (S.may i)) ∧ w = w' := by
  obtain ⟨v, ob, fb, h⟩ := h
  obtain ⟨ao, cap, rfl, -, -⟩ := h.now.shape
  obtain ⟨c0, -, -, -, -, c5⟩ := h.cells
  have hn := h.ok.n
  unfold Pm.may
  generalize S.gone = g at c5 ⊢
  clear h
  cases g with
  | true =>
    go_enter Try.func106, Try.ntmps106
    go_wp2
    go_ret
    exact ⟨rfl, rfl⟩
  | false =>
    simp only [Bool.false_eq_true, if_false]
    rcases (show i < 0 ∨ (0 ≤ i ∧ i < (S.n : Int)) ∨ (0 ≤ i ∧ (S.n : Int) ≤ i) by omega) with h0 | ⟨h0, h1⟩ | ⟨h0, h1⟩
    · rw [if_pos (.inl h0)]
      go_enter Try.func106, Try.ntmps106
      go_wp2
      go_ret
      exact ⟨rfl, rfl⟩
    · rw [if_neg (by omega)]
      go_enter Try.func106, Try.ntmps106
      go_wp2
      go_ret
      exact ⟨rfl, rfl⟩
    · rw [if_pos (.inr h1)]
      go_enter Try.func106, Try.ntmps106
      go_wp2
      go_ret
      exact ⟨rfl, rfl⟩
end Go.Proofs.Ytfpnmphmngdkdaa
