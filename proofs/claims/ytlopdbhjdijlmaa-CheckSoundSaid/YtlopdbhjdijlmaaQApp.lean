/-
  Append, from whatever source (nil too), and where the new slice lies: general lemmas (no function of the program). No condition.
  Inodes and directories' entries as values and in memory: general lemmas. No walk here, no condition.
  An array of thirteen numbers in a block of its own: general lemmas. No condition.
  Two arrays of thirteen numbers compared. No function of the program, no condition.
-/
import Derived.Test.YtlopdbhjdijlmaaQLib
import Derived.Maps.AppendAt
import Derived.Laws.OwnMore

namespace Go.Proofs.Ytlopdbhjdijlmaa
open Go.ChangeShapes Go.WideShapes Go.ChangeAt Go.RowKit
set_option linter.unusedSimpArgs false
set_option linter.unusedVariables false

section
variable {P : Program}

/-- What a slice value holds: so many elements, their cells behind one another. -/
def HoldsC (w : World) (v : Value) (m : Nat) (cs : List Value) : Prop :=
  ∃ ao c, v = .slice ao m c ∧ m ≤ c ∧ c ≤ maxLen ∧ (ao = none → m = 0 ∧ c = 0) ∧ (∀ ad, ao = some ad → ∀ j u, cs[j]? = some u → w.cell? (ad.add j) = some u)

theorem HoldsC.of_own {w : World} {base : Nat} {e : TypeId} {size : Nat} {v : Value} {n : Nat} {xs : List Value} (h : w.ownsRow base e size v n xs) : HoldsC w v n xs := by
  rcases h.2 with ⟨rfl, h0⟩ | ⟨g, cap, cur, rfl, hb, hg, hn, hm, hsz, htk⟩
  · exact ⟨none, 0, by rw [h0], by omega, Nat.zero_le _, fun _ => ⟨h0, rfl⟩, (fun ad h => by cases h)⟩
  · refine ⟨_, cap, rfl, hn, hm, (fun h => by cases h), fun ad ha j u hj => ?_⟩
    cases ha
    exact h.cells rfl j u hj

theorem HoldsC.lt {w : World} {ad : Addr} {m c : Nat} {cs : List Value} (h : HoldsC w (.slice (some ad) m c) m cs) (h0 : 0 < cs.length) : ad.block < w.heap.size := by
  obtain ⟨ao, c', hv, _, _, _, hc⟩ := h
  simp only [Value.slice.injEq] at hv
  obtain ⟨rfl, -, rfl⟩ := hv
  have := hc ad rfl 0 _ (List.getElem?_eq_getElem h0)
  have e : (ad.add 0).block = ad.block := by unfold Addr.add; split <;> rfl
  rw [← e]
  exact World.block_lt_of_cell? w _ this

theorem HoldsC.mod {w w' : World} {v : Value} {m : Nat} {cs : List Value} (h : HoldsC w v m cs) {D : Nat → Prop} (hm : Mod D w w') (hn : ∀ g, v.ownBlock = some g → ¬ D g) : HoldsC w' v m cs := by
  obtain ⟨ao, c, rfl, h1, h2, h3, h4⟩ := h
  refine ⟨ao, c, rfl, h1, h2, h3, fun ad ha j u hj => hm.cell (h4 ad ha j u hj) ?_⟩
  subst ha
  have e : (ad.add j).block = ad.block := by unfold Addr.add; split <;> rfl
  rw [e]
  exact hn _ rfl

theorem HoldsC.below {w w' : World} {v : Value} {m : Nat} {cs : List Value} (h : HoldsC w v m cs) (hb : Below w.heap.size w w') : HoldsC w' v m cs :=
  h.mod (mod_of_below hb) (fun _ _ h => h)

theorem run_append_any (w : World) (t ty : TypeId) (base : Nat) (e : TypeId) (i : TypeInfo) (z : Value) (size bytes : Nat) (ht : P.underlying t = some (.slice e)) (hi : P.info? e = some i) (hz : i.zero = some z)
    (hsize : i.size = size) (hby : i.bytes = bytes) (hzs : z.cells.size = size) (hsz : 0 < size)
    (v : Value) (n : Nat) (xs : List Value) (hown : w.ownsRow base e size v n xs)
    (x : Value) (m : Nat) (news : List Value) (hx : HoldsC w x m news) (hl : news.length = m * size) (h1 : ∀ u ∈ news, u.oneCell' = true)
    (h63 : n + m ≤ maxLen) (hbytes : (n + m) * bytes ≤ 140737488355328) (hbase : base ≤ w.heap.size) :
    ∃ v' w', (Builtin.append_ #[t, t] ty #[v, x]).run P w = .ok v' w' ∧ w'.ownsRow base e size v' (n + m) (xs ++ news) ∧ w.grownBy w' v.ownBlock ∧ (v'.ownBlock = v.ownBlock ∨ v'.ownBlock = some w.heap.size) := by
  obtain ⟨ao, c, rfl, -, -, h0, hc⟩ := hx
  cases ao with
  | none =>
    obtain ⟨rfl, rfl⟩ := h0 rfl
    have hn : news = [] := List.eq_nil_of_length_eq_zero (by simpa using hl)
    subst hn
    refine ⟨v, w, run_append_owned_none (P := P) (w := w) base t ty e i size ht hi v n xs hown, by simpa using hown, ⟨rfl, rfl, rfl, Nat.le_refl _, fun _ _ _ => rfl⟩, .inl rfl⟩
  | some ad =>
    obtain ⟨v', w', hr, h2, h3, -, h5⟩ := run_append_own_at (P := P) w base t ty e i z size bytes ht hi hz hsize hby hzs hsz v n xs hown ad m c news hl (hc ad rfl) h1 h63 hbytes hbase
    exact ⟨v', w', hr, h2, h3, h5⟩

theorem wp_append_any {w : World} {o : Oper} {a : Act} {K : Act → World → Prop} {Q : Exit → Act → World → Prop} (s x : Operand) (t : TypeId)
    (ho : o.op = .call { callee := .builtin .append, args := #[s, x], argTypes := #[t, t] })
    (base : Nat) (e : TypeId) (i : TypeInfo) (z : Value) (size bytes : Nat) (ht : P.underlying t = some (.slice e)) (hi : P.info? e = some i) (hz : i.zero = some z)
    (hsize : i.size = size) (hby : i.bytes = bytes) (hzs : z.cells.size = size) (hsz : 0 < size)
    (v : Value) (n : Nat) (xs : List Value) (hs : a.eval s = v) (hown : w.ownsRow base e size v n xs)
    (y : Value) (m : Nat) (news : List Value) (hx : a.eval x = y) (hy : HoldsC w y m news) (hl : news.length = m * size) (h1 : ∀ u ∈ news, u.oneCell' = true)
    (h63 : n + m ≤ maxLen) (hbytes : (n + m) * bytes ≤ 140737488355328) (hbase : base ≤ w.heap.size)
    (h : ∀ v' w', w'.ownsRow base e size v' (n + m) (xs ++ news) → w.grownBy w' v.ownBlock → (v'.ownBlock = v.ownBlock ∨ v'.ownBlock = some w.heap.size) → K (a.put o.dst v') w') : o.wp P a w K Q := by
  obtain ⟨v', w', hr, h2, h3, h4⟩ := run_append_any (P := P) w t o.type base e i z size bytes ht hi hz hsize hby hzs hsz v n xs hown y m news hy hl h1 h63 hbytes hbase
  unfold Oper.wp execOp
  simp only [ho, resolve, invoke, builtin, Sem.run_bind, Sem.run_pure, Result.andThen_ok, List.map_toArray, List.map_cons, List.map_nil, hs, hx, hr]
  exact h v' w' h2 h3 h4

theorem wpList_append_any {w : World} {ops : Array Oper} {rest : List Oper} {o : Oper} {a : Act} {Q : Exit → Act → World → Prop} (hgd : o.guard = none) (s x : Operand) (t : TypeId)
    (ho : o.op = .call { callee := .builtin .append, args := #[s, x], argTypes := #[t, t] })
    (base : Nat) (e : TypeId) (i : TypeInfo) (z : Value) (size bytes : Nat) (ht : P.underlying t = some (.slice e)) (hi : P.info? e = some i) (hz : i.zero = some z)
    (hsize : i.size = size) (hby : i.bytes = bytes) (hzs : z.cells.size = size) (hsz : 0 < size)
    (v : Value) (n : Nat) (xs : List Value) (hs : a.eval s = v) (hown : w.ownsRow base e size v n xs)
    (y : Value) (m : Nat) (news : List Value) (hx : a.eval x = y) (hy : HoldsC w y m news) (hl : news.length = m * size) (h1 : ∀ u ∈ news, u.oneCell' = true)
    (h63 : n + m ≤ maxLen) (hbytes : (n + m) * bytes ≤ 140737488355328) (hbase : base ≤ w.heap.size)
    (h : ∀ v' w', w'.ownsRow base e size v' (n + m) (xs ++ news) → w.grownBy w' v.ownBlock → (v'.ownBlock = v.ownBlock ∨ v'.ownBlock = some w.heap.size) → wpList P ops Q rest (a.put o.dst v') w') : wpList P ops Q (o :: rest) a w :=
  wpList_plain hgd fun _ hK => wp_append_any s x t ho base e i z size bytes ht hi hz hsize hby hzs hsz v n xs hs hown y m news hx hy hl h1 h63 hbytes hbase fun v' w' h2 h3 h4 => hK _ _ (h v' w' h2 h3 h4)

theorem step_append_any {w : World} {ops : Array Oper} {o : Oper} {a : Act} {K : Act → World → Prop} {Q : Exit → Act → World → Prop} {E : Prop} (hgd : o.guard = none) (s x : Operand) (t : TypeId)
    (ho : o.op = .call { callee := .builtin .append, args := #[s, x], argTypes := #[t, t] })
    (base : Nat) (e : TypeId) (i : TypeInfo) (z : Value) (size bytes : Nat) (ht : P.underlying t = some (.slice e)) (hi : P.info? e = some i) (hz : i.zero = some z)
    (hsize : i.size = size) (hby : i.bytes = bytes) (hzs : z.cells.size = size) (hsz : 0 < size)
    (v : Value) (n : Nat) (xs : List Value) (hs : a.eval s = v) (hown : w.ownsRow base e size v n xs)
    (y : Value) (m : Nat) (news : List Value) (hx : a.eval x = y) (hy : HoldsC w y m news) (hl : news.length = m * size) (h1 : ∀ u ∈ news, u.oneCell' = true)
    (h63 : n + m ≤ maxLen) (hbytes : (n + m) * bytes ≤ 140737488355328) (hbase : base ≤ w.heap.size)
    (h : ∀ v' w', w'.ownsRow base e size v' (n + m) (xs ++ news) → w.grownBy w' v.ownBlock → (v'.ownBlock = v.ownBlock ∨ v'.ownBlock = some w.heap.size) → K (a.put o.dst v') w') :
    if Region.wanted o (yielded ops a.tmps) = true then Oper.wp P o a w K Q else E := by
  have hw : Region.wanted o (yielded ops a.tmps) = true := by simp [Region.wanted, hgd]
  rw [if_pos hw]
  exact wp_append_any s x t ho base e i z size bytes ht hi hz hsize hby hzs hsz v n xs hs hown y m news hx hy hl h1 h63 hbytes hbase h

/-- A block that is known whole, as a source. -/
theorem HoldsC.block {w : World} {B m : Nat} {cs : Array Value} {t : TypeId} {fr : Nat × Nat} (hb : w.heap[B]? = some (.cells cs t fr)) (hm : m ≤ maxLen) : HoldsC w (.slice (some ⟨B, 0, none⟩) m m) m cs.toList :=
  ⟨_, m, rfl, Nat.le_refl _, hm, (fun h => by cases h), fun ad ha j u hj => by
    cases ha
    have hadd : (⟨B, 0, none⟩ : Addr).add j = ⟨B, j, none⟩ := by unfold Addr.add; split <;> simp_all
    rw [hadd, cell_of_row w B j cs t fr hb]
    simpa using hj⟩

/-- A block that is known whole is owned. -/
theorem own_block {w : World} {base B n : Nat} {e : TypeId} {size : Nat} {cs : Array Value} (hb : w.heap[B]? = some (.cells cs e (0, 0))) (hB : base ≤ B) (hm : n ≤ maxLen) (hs : cs.size = n * size) :
    w.ownsRow base e size (.slice (some ⟨B, 0, none⟩) n n) n cs.toList :=
  ⟨by simpa using hs, .inr ⟨B, n, cs, rfl, hB, hb, Nat.le_refl _, hm, hs, List.take_of_length_le (by rw [Array.length_toList, hs]; exact Nat.le_refl _)⟩⟩

/-- What was there ahead of an append, but for its own row, stays. -/
theorem grown_heap {w w' : World} {row : Option Nat} (h : w.grownBy w' row) {k : Nat} {o : Obj} (hk : w.heap[k]? = some o) (hn : row ≠ some k) : w'.heap[k]? = some o :=
  (mod_of_grown h).heap hk hn

theorem heap_new1 (w : World) (o1 o2 : Obj) : ((w.alloc o1).alloc o2).heap[w.heap.size + 1]? = some o2 := by
  have := heap_alloc_new (w.alloc o1) o2
  simpa using this

theorem heap_new0 (w : World) (o1 o2 : Obj) : ((w.alloc o1).alloc o2).heap[w.heap.size]? = some o1 := by
  rw [Below.heap_alloc _ _ _ (by simp)]
  exact heap_alloc_new w o1

theorem mod_grown {w w0 w1 : World} {row : Option Nat} (h : Mod nob w w0) (hg : w0.grownBy w1 row) (hr : ∀ k, row = some k → w.heap.size ≤ k) : Mod nob w w1 :=
  h.trans ((mod_of_grown hg).mono fun b hb hd => .inr ⟨hr b hd, hb⟩)

theorem own_ge {w : World} {base : Nat} {e : TypeId} {size : Nat} {v : Value} {n : Nat} {xs : List Value} (h : w.ownsRow base e size v n xs) : ∀ k, v.ownBlock = some k → base ≤ k := by
  intro k hk
  rcases h.2 with ⟨rfl, _⟩ | ⟨g, cap, cur, rfl, hb, _⟩
  · cases hk
  · cases hk; exact hb

/-- A guarded operation that is wanted, without its guard. -/
theorem wpList_unguard {ops : Array Oper} {rest : List Oper} {o : Oper} {a : Act} {Q : Exit → Act → World → Prop} {w : World} (hw : Region.wanted o (yielded ops a.tmps) = true) (h : wpList P ops Q ({ o with guard := none } :: rest) a w) : wpList P ops Q (o :: rest) a w := by
  unfold wpList at h ⊢
  rw [if_pos hw]
  rw [if_pos (by simp [Region.wanted])] at h
  exact h

theorem nob_mod_below {w w' : World} (h : Mod nob w w') : Below w.heap.size w w' := h.below (Nat.le_refl _) (fun _ h => h.elim)
end
end Go.Proofs.Ytlopdbhjdijlmaa

namespace Go.Proofs.Ytlopdbhjdijlmaa
open Go.ChangeShapes Go.WideShapes Go.ChangeAt Go.RowKit
set_option linter.unusedSimpArgs false
set_option linter.unusedVariables false

structure En where
  name : ByteArray
  ino : Int
instance : Inhabited En := ⟨⟨⟨#[]⟩, 0⟩⟩

structure En.Ok (x : En) : Prop where
  name : x.name.size ≤ maxLen
  ino : -9223372036854775808 ≤ x.ino ∧ x.ino ≤ 9223372036854775807

structure Ino where
  format : Int
  kind : Int
  links : Int
  size : Int
  bl : List Int
  ents : List En
instance : Inhabited Ino := ⟨⟨0, 0, 0, 0, List.replicate 13 0, []⟩⟩

def i64 (x : Int) : Prop := -9223372036854775808 ≤ x ∧ x ≤ 9223372036854775807

structure Ino.Ok (n : Ino) : Prop where
  format : i64 n.format
  kind : i64 n.kind
  links : i64 n.links
  size : i64 n.size
  len : n.bl.length = 13
  bl : ∀ x ∈ n.bl, i64 x
  ents : ∀ x ∈ n.ents, x.Ok

/-- An inode's cells; its entries' slice is ev. -/
def inoL (n : Ino) (ev : Value) : List Value := .int .i64 n.format :: .int .i64 n.kind :: .int .i64 n.links :: .int .i64 n.size :: (n.bl.map (Value.int .i64) ++ [ev])
def inoA (n : Ino) (ev : Value) : Array Value := (inoL n ev).toArray

theorem inoL_len {n : Ino} (h : n.bl.length = 13) (ev : Value) : (inoL n ev).length = 18 := by simp [inoL, h]
theorem inoA_size {n : Ino} (h : n.bl.length = 13) (ev : Value) : (inoA n ev).size = 18 := by simp [inoA, inoL_len h]

theorem inoL_one {n : Ino} {ev : Value} (he : ev.oneCell' = true) : ∀ u ∈ inoL n ev, u.oneCell' = true := by
  intro u hu
  unfold inoL at hu
  simp only [List.mem_cons, List.mem_append, List.mem_map, List.not_mem_nil, or_false] at hu
  rcases hu with rfl | rfl | rfl | rfl | ⟨x, -, rfl⟩ | rfl
  · rfl
  · rfl
  · rfl
  · rfl
  · rfl
  · exact he

/-- Cells that begin at an offset of a block are an inode. -/
structure InoAt (w : World) (B o : Nat) (n : Ino) (ev : Value) : Prop where
  c0 : w.cell? ⟨B, o, none⟩ = some (.int .i64 n.format)
  c1 : w.cell? ⟨B, o + 1, none⟩ = some (.int .i64 n.kind)
  c2 : w.cell? ⟨B, o + 2, none⟩ = some (.int .i64 n.links)
  c3 : w.cell? ⟨B, o + 3, none⟩ = some (.int .i64 n.size)
  bl : ∀ k, k < 13 → w.cell? ⟨B, o + (4 + k), none⟩ = some (.int .i64 (n.bl.getD k 0))
  ev : w.cell? ⟨B, o + 17, none⟩ = some ev

theorem inoL_get {n : Ino} (h : n.bl.length = 13) (ev : Value) : (inoL n ev)[0]? = some (.int .i64 n.format) ∧ (inoL n ev)[1]? = some (.int .i64 n.kind) ∧ (inoL n ev)[2]? = some (.int .i64 n.links) ∧ (inoL n ev)[3]? = some (.int .i64 n.size) ∧
    (∀ k, k < 13 → (inoL n ev)[4 + k]? = some (.int .i64 (n.bl.getD k 0))) ∧ (inoL n ev)[17]? = some ev := by
  refine ⟨rfl, rfl, rfl, rfl, fun k hk => ?_, ?_⟩
  · unfold inoL
    rw [show 4 + k = k + 1 + 1 + 1 + 1 by omega, List.getElem?_cons_succ, List.getElem?_cons_succ, List.getElem?_cons_succ, List.getElem?_cons_succ, List.getElem?_append_left (by simp [h, hk]), List.getElem?_map,
      List.getElem?_eq_getElem (by omega), List.getD_eq_getElem?_getD, List.getElem?_eq_getElem (by omega)]
    rfl
  · unfold inoL
    rw [show (17 : Nat) = 13 + 1 + 1 + 1 + 1 by omega, List.getElem?_cons_succ, List.getElem?_cons_succ, List.getElem?_cons_succ, List.getElem?_cons_succ, List.getElem?_append_right (by simp [h])]
    simp [h]

theorem InoAt.range {w : World} {B o : Nat} {n : Ino} {ev : Value} (h : InoAt w B o n ev) (hl : n.bl.length = 13) : w.rangeAt B o (inoL n ev) := by
  intro j u hu
  obtain ⟨g0, g1, g2, g3, gb, ge⟩ := inoL_get hl ev
  have hj : j < 18 := by
    have := (List.getElem?_eq_some_iff.1 hu).1
    rw [inoL_len hl] at this
    exact this
  rcases (show j = 0 ∨ j = 1 ∨ j = 2 ∨ j = 3 ∨ (4 ≤ j ∧ j < 17) ∨ j = 17 by omega) with rfl | rfl | rfl | rfl | ⟨h4, h17⟩ | rfl
  · rw [g0] at hu; rw [Nat.add_zero, ← hu]; exact h.c0
  · rw [g1] at hu; rw [← hu]; exact h.c1
  · rw [g2] at hu; rw [← hu]; exact h.c2
  · rw [g3] at hu; rw [← hu]; exact h.c3
  · have hb := gb (j - 4) (by omega)
    have hc := h.bl (j - 4) (by omega)
    rw [show 4 + (j - 4) = j by omega] at hb hc
    rw [hb] at hu
    rw [← hu]
    exact hc
  · rw [ge] at hu; rw [← hu]; exact h.ev

/-- Its blocks, as a row. -/
theorem InoAt.blocks {w : World} {B o : Nat} {n : Ino} {ev : Value} (h : InoAt w B o n ev) (hl : n.bl.length = 13) : w.rangeAt B (o + 4) (n.bl.map (Value.int .i64)) := by
  intro j u hu
  have hj : j < 13 := by
    have := (List.getElem?_eq_some_iff.1 hu).1
    simpa [hl] using this
  have hc := h.bl j hj
  rw [List.getElem?_map, List.getElem?_eq_getElem (by omega)] at hu
  rw [List.getD_eq_getElem?_getD, List.getElem?_eq_getElem (by omega)] at hc
  rw [show o + 4 + j = o + (4 + j) by omega, ← hu]
  exact hc

theorem InoAt.mod {w w' : World} {B o : Nat} {n : Ino} {ev : Value} (h : InoAt w B o n ev) {D : Nat → Prop} (hm : Mod D w w') (hd : ¬ D B) : InoAt w' B o n ev :=
  ⟨hm.cell h.c0 hd, hm.cell h.c1 hd, hm.cell h.c2 hd, hm.cell h.c3 hd, fun k hk => hm.cell (h.bl k hk) hd, hm.cell h.ev hd⟩

/-- A block that is an inode whole. -/
def InoB (w : World) (B : Nat) (n : Ino) (ev : Value) : Prop := w.heap[B]? = some (.cells (inoA n ev) 25 (0, 0)) ∧ n.bl.length = 13

theorem InoB.at {w : World} {B : Nat} {n : Ino} {ev : Value} (h : InoB w B n ev) : InoAt w B 0 n ev := by
  obtain ⟨hh, hl⟩ := h
  obtain ⟨g0, g1, g2, g3, gb, ge⟩ := inoL_get hl ev
  have hc : ∀ j, w.cell? ⟨B, j, none⟩ = (inoL n ev)[j]? := fun j => by rw [cell_of_row _ _ _ _ _ _ hh]; simp [inoA]
  refine ⟨by rw [hc, g0], by rw [hc, Nat.zero_add, g1], by rw [hc, Nat.zero_add, g2], by rw [hc, Nat.zero_add, g3], fun k hk => by rw [hc, Nat.zero_add]; exact gb k hk, by rw [hc, Nat.zero_add, ge]⟩

theorem InoB.frozen {w : World} {B : Nat} {n : Ino} {ev : Value} (h : InoB w B n ev) (j : Nat) : w.frozen? ⟨B, j, none⟩ = false := frozen_of_row _ _ _ _ _ h.1
theorem InoB.lt {w : World} {B : Nat} {n : Ino} {ev : Value} (h : InoB w B n ev) : B < w.heap.size := lt_of_block h.1
theorem InoB.mod {w w' : World} {B : Nat} {n : Ino} {ev : Value} (h : InoB w B n ev) {D : Nat → Prop} (hm : Mod D w w') (hd : ¬ D B) : InoB w' B n ev := ⟨hm.heap h.1 hd, h.2⟩
theorem InoB.new (w : World) {n : Ino} (h : n.bl.length = 13) (ev : Value) : InoB (w.alloc (.cells (inoA n ev) 25)) w.heap.size n ev := ⟨heap_alloc_new _ _, h⟩

theorem list_set_mid {α : Type} (a : List α) (v : α) : ∀ (l : List α) (k : Nat), (a ++ l).set (a.length + k) v = a ++ l.set k v := by
  induction a with
  | nil => intro l k; simp
  | cons x a ih => intro l k; simp only [List.cons_append, List.length_cons, show a.length + 1 + k = (a.length + k) + 1 by omega, List.set_cons_succ, ih]

/-- A block's number stored. -/
theorem InoB.setBl {w : World} {B : Nat} {n : Ino} {ev : Value} (h : InoB w B n ev) (k : Nat) (hk : k < 13) (x : Int) : InoB (w.setCell ⟨B, 4 + k, none⟩ (.int .i64 x)) B { n with bl := n.bl.set k x } ev := by
  refine ⟨?_, by simp [h.2]⟩
  rw [heap_setCell_same w B (4 + k) _ _ _ h.1]
  congr 2
  unfold inoA
  apply Array.toList_inj.1
  simp only [Array.toList_setIfInBounds]
  unfold inoL
  rw [show 4 + k = k + 1 + 1 + 1 + 1 by omega]
  simp only [List.set_cons_succ, List.map_set]
  have hlen : (n.bl.map (Value.int .i64)).length = 13 := by simp [h.2]
  rw [List.set_append_left _ _ (by omega)]

/-- Its entries' slice stored. -/
theorem InoB.setEv {w : World} {B : Nat} {n : Ino} {ev : Value} (h : InoB w B n ev) (l : List En) (x : Value) : InoB (w.setCell ⟨B, 17, none⟩ x) B { n with ents := l } x := by
  refine ⟨?_, h.2⟩
  rw [heap_setCell_same w B 17 _ _ _ h.1]
  congr 2
  unfold inoA
  apply Array.toList_inj.1
  simp only [Array.toList_setIfInBounds]
  unfold inoL
  have hlen : (n.bl.map (Value.int .i64)).length = 13 := by simp [h.2]
  simp only [List.set_cons_succ]
  rw [List.set_append_right _ _ (by omega), hlen]
  rfl

/-- Numbers stored. -/
theorem InoB.setFormat {w : World} {B : Nat} {n : Ino} {ev : Value} (h : InoB w B n ev) (x : Int) : InoB (w.setCell ⟨B, 0, none⟩ (.int .i64 x)) B { n with format := x } ev := by
  refine ⟨?_, h.2⟩
  rw [heap_setCell_same w B 0 _ _ _ h.1]
  congr 2
theorem InoB.setSize {w : World} {B : Nat} {n : Ino} {ev : Value} (h : InoB w B n ev) (x : Int) : InoB (w.setCell ⟨B, 3, none⟩ (.int .i64 x)) B { n with size := x } ev := by
  refine ⟨?_, h.2⟩
  rw [heap_setCell_same w B 3 _ _ _ h.1]
  congr 2

theorem below_dN {B : Nat} {a w : World} (h : Below B a w) (n : Nat) : Below B a (w.drewN n) := ⟨h.os, h.tape, h.output, h.size, h.block⟩

/-! Entries -/

def enC (l : List En) : List Value := l.flatMap fun x => [Value.string x.name, .int .i64 x.ino]

theorem enC_append (a b : List En) : enC (a ++ b) = enC a ++ enC b := by simp [enC]

theorem enC_len (l : List En) : (enC l).length = l.length * 2 := by
  induction l with
  | nil => rfl
  | cons x l ih =>
    have : enC (x :: l) = [.string x.name, .int .i64 x.ino] ++ enC l := rfl
    rw [this, List.length_append, ih]
    simp; omega

theorem enC_one (l : List En) : ∀ u ∈ enC l, u.oneCell' = true := by
  intro u hu
  unfold enC at hu
  rw [List.mem_flatMap] at hu
  obtain ⟨x, _, hu⟩ := hu
  simp at hu
  rcases hu with rfl | rfl <;> rfl

theorem enC_split (l : List En) (k : Nat) (hk : k < l.length) : enC l = enC (l.take k) ++ ([.string (l.getD k default).name, .int .i64 (l.getD k default).ino] ++ enC (l.drop (k + 1))) := by
  have hx : l.getD k default = l[k] := by rw [List.getD_eq_getElem?_getD, List.getElem?_eq_getElem hk]; rfl
  have hsp : l = l.take k ++ l[k] :: l.drop (k + 1) := by rw [List.getElem_cons_drop, List.take_append_drop]
  rw [hx]
  exact (congrArg enC hsp).trans (enC_append _ _)

theorem enC_get (l : List En) (k : Nat) (hk : k < l.length) : (enC l)[k * 2]? = some (.string (l.getD k default).name) ∧ (enC l)[k * 2 + 1]? = some (.int .i64 (l.getD k default).ino) := by
  have htk : (l.take k).length = k := by simp; omega
  have hcs := enC_split l k hk
  constructor
  · rw [hcs, List.getElem?_append_right (by rw [enC_len, htk]; omega), enC_len, htk, Nat.sub_self]; rfl
  · rw [hcs, List.getElem?_append_right (by rw [enC_len, htk]; omega), enC_len, htk, Nat.add_sub_cancel_left]; rfl

/-- What a slice value of entries holds, in whatever block. -/
def HoldsE (w : World) (v : Value) (l : List En) : Prop :=
  ∃ ao c, v = .slice ao l.length c ∧ l.length ≤ c ∧ c ≤ maxLen ∧ (ao = none → c = 0) ∧ ∀ j, j < l.length → ∃ g o, ao = some ⟨g, o, none⟩ ∧ w.cell? ⟨g, o + j * 2, none⟩ = some (.string (l.getD j default).name) ∧ w.cell? ⟨g, o + j * 2 + 1, none⟩ = some (.int .i64 (l.getD j default).ino)

theorem HoldsE.nil (w : World) : HoldsE w (.slice none 0 0) [] := ⟨none, 0, rfl, Nat.le_refl _, Nat.zero_le _, fun _ => rfl, fun j h => by simp at h⟩

theorem HoldsE.mod {w w' : World} {v : Value} {l : List En} (h : HoldsE w v l) {D : Nat → Prop} (hm : Mod D w w') (hd : l ≠ [] → ∀ g, v.ownBlock = some g → ¬ D g) : HoldsE w' v l := by
  obtain ⟨ao, c, rfl, h1, h2, h3, h4⟩ := h
  refine ⟨ao, c, rfl, h1, h2, h3, fun j hj => ?_⟩
  obtain ⟨g, o, rfl, e1, e2⟩ := h4 j hj
  have hn : ¬ D g := hd (fun e => by rw [e] at hj; simp at hj) g rfl
  exact ⟨g, o, rfl, hm.cell e1 hn, hm.cell e2 hn⟩

theorem HoldsE.below {w w' : World} {v : Value} {l : List En} (h : HoldsE w v l) (hb : Below w.heap.size w w') : HoldsE w' v l := h.mod (mod_of_below hb) (fun _ _ _ h => h)

theorem HoldsE.lt {w : World} {v : Value} {l : List En} (h : HoldsE w v l) (hl : l ≠ []) : ∀ g, v.ownBlock = some g → g < w.heap.size := by
  obtain ⟨ao, c, rfl, h1, h2, h3, h4⟩ := h
  obtain ⟨g, o, rfl, hc, -⟩ := h4 0 (List.length_pos_iff.2 hl)
  intro g' e
  cases e
  exact World.block_lt_of_cell? w _ hc

theorem HoldsE.cells {w : World} {v : Value} {l : List En} (h : HoldsE w v l) : HoldsC w v l.length (enC l) := by
  obtain ⟨ao, c, rfl, h1, h2, h3, h4⟩ := h
  refine ⟨ao, c, rfl, h1, h2, fun e => ⟨by have := h3 e; omega, h3 e⟩, fun ad ha j u hj => ?_⟩
  subst ha
  have hjl := (List.getElem?_eq_some_iff.1 hj).1
  rw [enC_len] at hjl
  obtain ⟨g, o, e, e1, e2⟩ := h4 (j / 2) (by omega)
  simp only [Option.some.injEq] at e
  subst e
  obtain ⟨f1, f2⟩ := enC_get l (j / 2) (by omega)
  rw [Addr.add_lit]
  rcases Nat.mod_two_eq_zero_or_one j with h | h
  · rw [show j / 2 * 2 = j by omega] at e1 f1
    rw [f1] at hj
    rw [← hj]
    exact e1
  · rw [show j / 2 * 2 + 1 = j by omega] at f2
    rw [show o + j / 2 * 2 + 1 = o + j by omega] at e2
    rw [f2] at hj
    rw [← hj]
    exact e2

theorem holdsE_of_own {w : World} {base m : Nat} {v : Value} {l : List En} (hm : m = l.length) (h : w.ownsRow base 27 2 v m (enC l)) : HoldsE w v l := by
  obtain ⟨ao, cap, rfl, h1, h2, -⟩ := own_shape h
  refine ⟨ao, cap, by rw [hm], by omega, h2, ?_, fun k hk => ?_⟩
  · rintro rfl
    rcases h.2 with ⟨hv, _⟩ | ⟨g, c, cur, hv, _⟩
    · simp at hv; exact hv.2
    · simp at hv
  · obtain ⟨g, cap', e, -, -, -, -⟩ := own_some h (by omega)
    simp only [Value.slice.injEq] at e
    obtain ⟨rfl, -, rfl⟩ := e
    obtain ⟨f1, f2⟩ := enC_get l k hk
    refine ⟨g, 0, rfl, ?_, ?_⟩
    · have := h.cells rfl (k * 2) _ f1
      rwa [Addr.add_lit] at this
    · have := h.cells rfl (k * 2 + 1) _ f2
      rwa [Addr.add_lit, ← Nat.add_assoc] at this
end Go.Proofs.Ytlopdbhjdijlmaa

namespace Go.Proofs.Ytlopdbhjdijlmaa
open Go.ChangeShapes Go.WideShapes Go.ChangeAt Go.RowKit
set_option linter.unusedSimpArgs false
set_option linter.unusedVariables false

/-- An array of thirteen in a block of its own. -/
def Arr13 (w : World) (B : Nat) (l : List Int) : Prop := w.heap[B]? = some (.cells (l.map (Value.int .i64)).toArray 22 (0, 0)) ∧ l.length = 13
theorem Arr13.cell {w : World} {B : Nat} {l : List Int} (h : Arr13 w B l) (k : Nat) (hk : k < 13) : w.cell? ⟨B, k, none⟩ = some (.int .i64 (l.getD k 0)) := by
  rw [cell_of_row _ _ _ _ _ _ h.1]
  have hkl : k < l.length := by rw [h.2]; exact hk
  simp [hkl]
theorem Arr13.frozen {w : World} {B : Nat} {l : List Int} (h : Arr13 w B l) (k : Nat) : w.frozen? ⟨B, k, none⟩ = false := frozen_of_row _ _ _ _ _ h.1
theorem Arr13.set {w : World} {B : Nat} {l : List Int} (h : Arr13 w B l) (k : Nat) (x : Int) : Arr13 (w.setCell ⟨B, k, none⟩ (.int .i64 x)) B (l.set k x) := by
  refine ⟨?_, by rw [List.length_set]; exact h.2⟩
  rw [heap_setCell_same _ _ _ _ _ _ h.1]
  congr 2
  apply Array.toList_inj.1
  simp [List.map_set]
theorem Arr13.mod {w w' : World} {B : Nat} {l : List Int} (h : Arr13 w B l) {D : Nat → Prop} (hm : Mod D w w') (hd : ¬ D B) : Arr13 w' B l := ⟨hm.heap h.1 hd, h.2⟩

end Go.Proofs.Ytlopdbhjdijlmaa

namespace Go.Proofs.Ytlopdbhjdijlmaa
open Go.ChangeShapes Go.WideShapes Go.ChangeAt Go.RowKit
set_option linter.unusedSimpArgs false
set_option linter.unusedVariables false

section
variable {P : Program}

theorem part_int {t : TypeId} (hu : P.underlying t = some (.int .i64)) (hs : (P.info? t).map (·.size) = some 1) (cs : Array Value) (i : Nat) (x : Int) (h : cs[i]? = some (.int .i64 x)) (w : World) :
    (part t cs i).run P w = .ok (.int .i64 x) w := by
  obtain ⟨inf, hinf, hsz⟩ := Option.map_eq_some_iff.1 hs
  have hagg := isAgg_of (d := .int .i64) hu rfl w
  simp [part, Sem.run_bind, hagg, sizeOf, typeInfo, hinf, hsz, h]

/-- One round of the comparison. -/
def eqFrom (xs ys : List Int) (i : Nat) : Nat → Bool
  | 0 => true
  | n + 1 => xs.getD i 0 == ys.getD i 0 && eqFrom xs ys (i + 1) n

theorem eqFrom_iff (xs ys : List Int) : ∀ (n i : Nat), eqFrom xs ys i n = true ↔ ∀ k, i ≤ k → k < i + n → xs.getD k 0 = ys.getD k 0 := by
  intro n
  induction n with
  | zero => intro i; simp only [eqFrom, true_iff]; intro k h1 h2; omega
  | succ n ih =>
    intro i
    simp only [eqFrom, Bool.and_eq_true, beq_iff_eq]
    rw [ih (i + 1)]
    constructor
    · rintro ⟨h0, h⟩ k h1 h2
      by_cases e : k = i
      · rw [e]; exact h0
      · exact h k (by omega) (by omega)
    · intro h
      exact ⟨h i (by omega) (by omega), fun k h1 h2 => h k (by omega) (by omega)⟩

theorem run_eq_arr {t e : TypeId} {n d : Nat} (hu : P.underlying t = some (.array n e)) (he : P.underlying e = some (.int .i64)) (hs : (P.info? e).map (·.size) = some 1) (xs ys : List Int) (hx : xs.length = n) (hy : ys.length = n) (w : World) :
    (Op.equalIn (d + 2) t (.agg (xs.map (Value.int .i64)).toArray) (.agg (ys.map (Value.int .i64)).toArray)).run P w = .ok (eqFrom xs ys 0 n) w := by
  obtain ⟨inf, hinf, hsz⟩ := Option.map_eq_some_iff.1 hs
  have hp : ∀ (zs : List Int), zs.length = n → ∀ i, i < n → ∀ w, (part e (zs.map (Value.int .i64)).toArray i).run P w = .ok (.int .i64 (zs.getD i 0)) w := by
    intro zs hz i hi w
    exact part_int he hs _ i _ (by simp [hz, hi]) w
  rw [Op.equalIn]
  simp only [Sem.run_bind, run_underlying hu, Result.andThen_ok, sizeOf, typeInfo, run_program, hinf, hsz, Nat.mul_one]
  simp only [Sem.run_pure, Result.andThen_ok, hsz, Nat.mul_one]
  simp only [Std.Legacy.Range.forIn_eq_forIn_range', Std.Legacy.Range.size, Nat.sub_zero, Nat.add_sub_cancel, Nat.div_one]
  have key : ∀ (m i : Nat) (w : World), i + m = n → (forIn (m := Sem) (List.range' i m) ((none, ()) : Option Bool × Unit) fun i __s => do
              let __do_lift ← part e (List.map (Value.int .i64) xs).toArray i
              let __do_lift_1 ← part e (List.map (Value.int .i64) ys).toArray i
              let __do_lift ← Op.equalIn (d + 1) e __do_lift __do_lift_1
              if (!__do_lift) = true then pure (ForInStep.done (some false, ())) else pure (ForInStep.yield (none, ()))).run P w = .ok (if eqFrom xs ys i m then (none, ()) else (some false, ())) w := by
    intro m
    induction m with
    | zero => intro i w _; simp [eqFrom, List.range']
    | succ m ih =>
      intro i w hi
      rw [List.range'_succ, List.forIn_cons]
      simp only [Sem.run_bind, hp xs hx i (by omega), hp ys hy i (by omega), Result.andThen_ok, run_equalIn_int w d e .i64 .i64 _ _ he, Sem.run_ite, eqFrom]
      by_cases hb : xs.getD i 0 = ys.getD i 0
      · have hb' : (xs.getD i 0 == ys.getD i 0) = true := by simpa using hb
        simp only [hb', Bool.not_true, Bool.false_eq_true, if_false, Sem.run_pure, Result.andThen_ok, Bool.true_and]
        exact ih (i + 1) w (by omega)
      · have hb' : (xs.getD i 0 == ys.getD i 0) = false := by simpa using hb
        simp only [hb', Bool.not_false, if_true, Sem.run_pure, Result.andThen_ok, Bool.false_and, Bool.false_eq_true, if_false]
  have h0 := key n 0 w (by omega)

  rw [h0]
  cases eqFrom xs ys 0 n <;> simp
end
end Go.Proofs.Ytlopdbhjdijlmaa
