/-
  Which inode is reached from which. Plain: nothing is assumed.
  A queue of numbers: a slice that lies anywhere in a row of its own. No walk here, no condition.
  tree.Below: a contract. No condition but the sheet's holding a table.
-/
import Derived.Test.YtlopdbhjdijlmaaQInsM
import Derived.Test.YtlopdbhjdijlmaaQLay1
import Derived.Test.YtlopdbhjdijlmaaQRead1
import Derived.Lib.AppendZeros
import Derived.Test.YtlopdbhjdijlmaaQInoM
import Derived.Test.YtlopdbhjdijlmaaQGet8

namespace Go.Proofs.Ytlopdbhjdijlmaa
set_option linter.unusedSimpArgs false
set_option linter.unusedVariables false

/-- Where an inode's entries go. -/
def succL (t : Nat → Ino) (x : Int) : List Int := if 0 ≤ x ∧ x < 32 then (t x.toNat).ents.map En.ino else []
inductive Reach (t : Nat → Ino) (d : Int) : Int → Prop
  | refl : Reach t d d
  | step {y z : Int} : Reach t d y → z ∈ succL t y → Reach t d z
open Classical in
noncomputable def belB (t : Nat → Ino) (d i : Int) : Bool := decide (Reach t d i)
open Classical in
theorem belB_true {t : Nat → Ino} {d i : Int} (h : Reach t d i) : belB t d i = true := by unfold belB; exact decide_eq_true h
open Classical in
theorem belB_false {t : Nat → Ino} {d i : Int} (h : ¬ Reach t d i) : belB t d i = false := by unfold belB; exact decide_eq_false h

/-- All entries go to inodes. -/
def EntsIn (t : Nat → Ino) : Prop := ∀ k, k < 32 → ∀ e ∈ (t k).ents, 0 ≤ e.ino ∧ e.ino < 32
theorem succ_in {t : Nat → Ino} (h : EntsIn t) {y z : Int} (hz : z ∈ succL t y) : 0 ≤ z ∧ z < 32 := by
  unfold succL at hz
  split at hz
  · rename_i hy
    obtain ⟨e, he, rfl⟩ := List.mem_map.1 hz
    exact h y.toNat (by omega) e he
  · cases hz
theorem reach_in {t : Nat → Ino} (h : EntsIn t) {d z : Int} (hr : Reach t d z) : z = d ∨ (0 ≤ z ∧ z < 32) := by
  cases hr with
  | refl => exact .inl rfl
  | step _ hz => exact .inr (succ_in h hz)
theorem reach_out {t : Nat → Ino} {d : Int} (hd : d < 0 ∨ 31 < d) {z : Int} (hr : Reach t d z) : z = d := by
  induction hr with
  | refl => rfl
  | step _ hz ih =>
    subst ih
    unfold succL at hz
    rw [if_neg (by omega)] at hz
    cases hz

/-- A set that holds the first, and what is reached at once from what it holds, holds all that is reached. -/
theorem reach_closed {t : Nat → Ino} {d : Int} {P : Int → Prop} (h0 : P d) (h1 : ∀ y z, P y → z ∈ succL t y → P z) {z : Int} (hr : Reach t d z) : P z := by
  induction hr with
  | refl => exact h0
  | step _ hz ih => exact h1 _ _ ih hz

def cntF (f : Nat → Bool) : Nat → Nat
  | 0 => 0
  | n + 1 => cntF f n + if f n = true then 1 else 0
theorem cntF_le (f : Nat → Bool) (n : Nat) : cntF f n ≤ n := by
  induction n with
  | zero => exact Nat.le_refl _
  | succ n ih => unfold cntF; split <;> omega
theorem cntF_mono {f g : Nat → Bool} : ∀ n, (∀ k, k < n → f k = true → g k = true) → cntF f n ≤ cntF g n
  | 0, _ => Nat.le_refl _
  | n + 1, h => by
    have ih := cntF_mono n (fun k hk => h k (by omega))
    unfold cntF
    by_cases hf : f n = true
    · rw [if_pos hf, if_pos (h n (by omega) hf)]; omega
    · rw [if_neg hf]; omega
theorem cntF_lt {f g : Nat → Bool} : ∀ n, (∀ k, k < n → f k = true → g k = true) → ∀ m, m < n → f m = false → g m = true → cntF f n < cntF g n
  | 0, _, m, hm, _, _ => by omega
  | n + 1, h, m, hm, hf, hg => by
    unfold cntF
    by_cases e : m = n
    · subst e
      have := cntF_mono (f := f) (g := g) m (fun k hk => h k (by omega))
      rw [if_neg (by rw [hf]; decide), if_pos hg]
      omega
    · have ih := cntF_lt n (fun k hk => h k (by omega)) m (by omega) hf hg
      by_cases hf2 : f n = true
      · rw [if_pos hf2, if_pos (h n (by omega) hf2)]; omega
      · rw [if_neg hf2]; omega

/-- What a round has told. -/
structure Told (t : Nat → Ino) (d : Nat) (r : Nat) (f : Nat → Bool) : Prop where
  sound : ∀ k, k < 32 → f k = true → Reach t (d : Int) (k : Int)
  first : f d = true
  all : (∀ k : Nat, k < 32 → Reach t (d : Int) (k : Int) → f k = true) ∨ r < cntF f 32
theorem Told.start (t : Nat → Ino) {d : Nat} (hd : d < 32) : Told t d 0 (fun k => decide (k = d)) :=
  ⟨fun k _ h => by rw [of_decide_eq_true h]; exact .refl, decide_eq_true rfl, .inr (by
    have := cntF_lt (f := fun _ => false) (g := fun k => decide (k = d)) 32 (fun k _ h => by cases h) d hd rfl (decide_eq_true rfl)
    omega)⟩
theorem Told.round {t : Nat → Ino} (hE : EntsIn t) {d r : Nat} (hd : d < 32) {f g : Nat → Bool} (h : Told t d r f) (hs : ∀ k, k < 32 → g k = true → Reach t (d : Int) (k : Int)) (hm : ∀ k, k < 32 → f k = true → g k = true)
    (ha : ∀ k, k < 32 → f k = true → ∀ e ∈ (t k).ents, g e.ino.toNat = true) : Told t d (r + 1) g := by
  refine ⟨hs, hm d hd h.first, ?_⟩
  rcases h.all with h1 | h1
  · exact .inl fun k hk hr => hm k hk (h1 k hk hr)
  · by_cases hc : ∃ m, m < 32 ∧ f m = false ∧ g m = true
    · obtain ⟨m, hm1, hm2, hm3⟩ := hc
      have := cntF_lt 32 hm m hm1 hm2 hm3
      exact .inr (by omega)
    · have hfg : ∀ k, k < 32 → g k = true → f k = true := fun k hk hg => by
        cases hf : f k with
        | true => rfl
        | false => exact absurd ⟨k, hk, hf, hg⟩ hc
      refine .inl fun k hk hr => ?_
      have := reach_closed (t := t) (d := (d : Int)) (P := fun z => ∃ m : Nat, m < 32 ∧ z = (m : Int) ∧ g m = true) ⟨d, hd, rfl, hm d hd h.first⟩ (fun y z hy hz => by
        obtain ⟨m, hm1, rfl, hm2⟩ := hy
        have hzr := succ_in hE hz
        unfold succL at hz
        rw [if_pos (by omega), Int.toNat_natCast] at hz
        obtain ⟨e, he, rfl⟩ := List.mem_map.1 hz
        exact ⟨e.ino.toNat, by omega, by omega, ha m hm1 (hfg m hm1 hm2) e he⟩) hr
      obtain ⟨m, hm1, hm2, hm3⟩ := this
      rw [show k = m by omega]
      exact hm3
theorem Told.done {t : Nat → Ino} {d : Nat} {f : Nat → Bool} (h : Told t d 33 f) {k : Nat} (hk : k < 32) : f k = belB t (d : Int) (k : Int) := by
  have hall : ∀ k : Nat, k < 32 → Reach t (d : Int) (k : Int) → f k = true := by
    rcases h.all with h1 | h1
    · exact h1
    · have := cntF_le f 32; omega
  by_cases hr : Reach t (d : Int) (k : Int)
  · rw [belB_true hr]; exact hall k hk hr
  · rw [belB_false hr]
    cases hf : f k with
    | false => rfl
    | true => exact absurd (h.sound k hk hf) hr
end Go.Proofs.Ytlopdbhjdijlmaa

namespace Go.Proofs.Ytlopdbhjdijlmaa
open Go.ChangeShapes Go.WideShapes Go.ChangeAt Go.RowKit
set_option linter.unusedSimpArgs false
set_option linter.unusedVariables false

theorem Try.infoInt9 : (Try.prog.info? 3).map (fun i => (i.zero, i.size, i.bytes)) = some (some (.int .i64 0), 1, 8) := by kernel_rfl
section
variable {P : Program}
theorem run_append_in (w : World) (t ty e : TypeId) (i : TypeInfo) (ht : P.underlying t = some (.slice e)) (hi : P.info? e = some i) (b o n cap : Nat) (ad : Addr) (m c : Nat) (news : List Value)
    (hl : news.length = m * i.size) (hnews : ∀ j v, news[j]? = some v → w.cell? (ad.add j) = some v) (hroom : n + m ≤ cap)
    (hc : ∀ j, j < news.length → (w.cell? ⟨b, o + n * i.size + j, none⟩).isSome = true) (hf : ∀ j, j < news.length → w.frozen? ⟨b, o + n * i.size + j, none⟩ = false) (h1 : ∀ v ∈ news, v.oneCell' = true) :
    (Builtin.append_ #[t, t] ty #[.slice (some ⟨b, o, none⟩) n cap, .slice (some ad) m c]).run P w = .ok (.slice (some ⟨b, o, none⟩) (n + m) cap) (w.setCells b (o + n * i.size) news) := by
  have hfc := run_firstCells_some (P := P) w i.size m ad m c news hl hnews
  have hst := run_storeCells_cells (P := P) b (o + n * i.size) news 0 w (by simpa using hc) (by simpa using hf) h1
  simp only [Nat.add_zero] at hst
  simp [Builtin.append_, run_underlying ht, sizeOf, typeInfo, hi, Builtin.lenOf, hroom, hfc, Addr.add_lit, hst]
end

/-- A queue's value, what it holds. -/
def QAt (w : World) (base : Nat) (v : Value) (l : List Int) : Prop :=
  ∃ (g o cap : Nat) (cur : Array Value), v = .slice (some ⟨g, o, none⟩) l.length cap ∧ l.length ≤ cap ∧ cap ≤ maxLen ∧ base ≤ g ∧ w.heap[g]? = some (.cells cur 3 (0, 0)) ∧ o + cap ≤ cur.size ∧ ∀ j, j < l.length → cur[o + j]? = some (.int .i64 (l.getD j 0))
theorem QAt.mod {w w' : World} {base : Nat} {v : Value} {l : List Int} (h : QAt w base v l) {D : Nat → Prop} (hm : Mod D w w') (hd : ∀ q, base ≤ q → ¬ D q) : QAt w' base v l := by
  obtain ⟨g, o, cap, cur, h1, h2, h3, h4, h5, h6, h7⟩ := h
  exact ⟨g, o, cap, cur, h1, h2, h3, h4, hm.heap h5 (hd g h4), h6, h7⟩
theorem QAt.new {w : World} {base : Nat} (x : Int) (h : base ≤ w.heap.size) : QAt (w.alloc (.cells #[.int .i64 x] 3)) base (.slice (some ⟨w.heap.size, 0, none⟩) 1 1) [x] :=
  ⟨w.heap.size, 0, 1, _, rfl, Nat.le_refl _, by unfold maxLen; omega, h, heap_alloc_new _ _, Nat.le_refl _, fun j hj => by
    obtain rfl : j = 0 := by simp at hj; exact hj
    rfl⟩
/-- The first is taken. -/
theorem QAt.pop {w : World} {base : Nat} {g o cap : Nat} {x : Int} {r : List Int} (h : QAt w base (.slice (some ⟨g, o, none⟩) (r.length + 1) cap) (x :: r)) :
    w.cell? ⟨g, o, none⟩ = some (.int .i64 x) ∧ 1 ≤ cap ∧ (cap = 1 → r = [] ∧ QAt w base (.slice (some ⟨g, o, none⟩) 0 0) []) ∧ (cap ≠ 1 → QAt w base (.slice (some ⟨g, o + 1, none⟩) r.length (cap - 1)) r) := by
  obtain ⟨g', o', cap', cur, h1, h2, h3, h4, h5, h6, h7⟩ := h
  simp only [Value.slice.injEq, Option.some.injEq, Addr.mk.injEq, and_true] at h1
  obtain ⟨⟨rfl, rfl⟩, -, rfl⟩ := h1
  rw [List.length_cons] at h2
  have hget : ∀ j, j < r.length → cur[o + 1 + j]? = some (.int .i64 (r.getD j 0)) := fun j hj => by
    have := h7 (j + 1) (by rw [List.length_cons]; omega)
    rw [show o + (j + 1) = o + 1 + j by omega] at this
    simpa using this
  refine ⟨?_, by omega, fun hc => ?_, fun hc => ?_⟩
  · have := h7 0 (by rw [List.length_cons]; omega)
    rw [cell_of_row _ _ _ _ _ _ h5]
    simpa using this
  · have hr : r = [] := List.eq_nil_of_length_eq_zero (by omega)
    exact ⟨hr, g, o, 0, cur, rfl, Nat.le_refl _, Nat.zero_le _, h4, h5, by omega, fun j hj => by simp at hj⟩
  · exact ⟨g, o + 1, cap - 1, cur, rfl, by omega, by omega, h4, h5, by omega, hget⟩

/-- One is put behind. -/
theorem QAt.push {w : World} {base : Nat} {v : Value} {l : List Int} (h : QAt w base v l) (hb : base ≤ w.heap.size) (hl : l.length ≤ 1000000) {vb : Nat} {x : Int} (hv : w.heap[vb]? = some (.cells #[.int .i64 x] 3 (0, 0))) (ty : TypeId) :
    ∃ v' w', (Builtin.append_ #[56, 56] ty #[v, .slice (some ⟨vb, 0, none⟩) 1 1]).run Try.prog w = .ok v' w' ∧ QAt w' base v' (l ++ [x]) ∧ Mod (fun q => v.ownBlock = some q) w w' ∧ (v'.ownBlock = v.ownBlock ∨ v'.ownBlock = some w.heap.size) := by
  obtain ⟨i1, hi1, hy0, hy1, hy2⟩ := info_parts Try.infoInt9
  obtain ⟨g, o, cap, cur, rfl, h2, h3, h4, h5, h6, h7⟩ := h
  have hnews : ∀ j u, [Value.int .i64 x][j]? = some u → w.cell? ((⟨vb, 0, none⟩ : Addr).add j) = some u := fun j u hj => by
    rw [Addr.add_lit, Nat.zero_add, cell_of_row _ _ _ _ _ _ hv]
    simpa using hj
  have h1c : ∀ u ∈ [Value.int .i64 x], u.oneCell' = true := fun u hu => by simp only [List.mem_cons, List.not_mem_nil, or_false] at hu; subst hu; rfl
  by_cases hroom : l.length + 1 ≤ cap
  · have hr := run_append_in (P := Try.prog) w 56 ty 3 i1 Try.underlying56 hi1 g o l.length cap ⟨vb, 0, none⟩ 1 1 [.int .i64 x] (by rw [hy1]; rfl) hnews hroom
      (fun j hj => by
        have hj0 : j = 0 := by simpa using hj
        subst hj0
        rw [cell_of_row _ _ _ _ _ _ h5, hy1, Array.getElem?_eq_getElem (show o + l.length * 1 + 0 < cur.size by omega)]
        rfl) (fun j hj => frozen_of_row _ _ _ _ _ h5) h1c
    rw [hy1, Nat.mul_one] at hr
    refine ⟨_, _, hr, ⟨g, o, cap, cur.setIfInBounds (o + l.length) (.int .i64 x), by rw [List.length_append]; rfl, by rw [List.length_append]; exact hroom, h3, h4, ?_, by simpa using h6, fun j hj => ?_⟩, ?_⟩
    · show ((w.setCell ⟨g, o + l.length, none⟩ (.int .i64 x)).setCells g (o + l.length + 1) []).heap[g]? = _
      exact heap_setCell_same w g (o + l.length) cur _ _ h5
    · rw [List.length_append, List.length_singleton] at hj
      rw [Array.getElem?_setIfInBounds]
      by_cases e : j = l.length
      · subst e
        rw [if_pos rfl, if_pos (by omega)]
        simp
      · rw [if_neg (by omega), h7 j (by omega)]
        simp only [List.getD_eq_getElem?_getD]
        rw [List.getElem?_append_left (by omega)]
    · exact ⟨Mod.setCells (D := fun q => (Value.slice (some ⟨g, o, none⟩) l.length cap).ownBlock = some q) g (.inl rfl) _ _ _ (Mod.refl _ w), .inl rfl⟩
  · have hlc : l.length = cap := by omega
    have hbig : (l.length + 1) * 8 ≤ 140737488355328 := by omega
    have hr := run_append_grow (P := Try.prog) w 56 ty 3 i1 _ Try.underlying56 hi1 hy0 ⟨g, o, none⟩ l.length cap (l.map (Value.int .i64)) (by rw [hy1, List.length_map, Nat.mul_one]) (fun j u hj => by
        have hjl : j < l.length := by have := (List.getElem?_eq_some_iff.1 hj).1; simpa using this
        rw [Addr.add_lit, cell_of_row _ _ _ _ _ _ h5, h7 j hjl]
        rw [List.getElem?_map, List.getElem?_eq_getElem hjl] at hj
        rw [List.getD_eq_getElem?_getD, List.getElem?_eq_getElem hjl]
        exact hj) ⟨vb, 0, none⟩ 1 1 [.int .i64 x] (by rw [hy1]; rfl) hnews (by omega) (by omega) (by rw [hy2]; exact growslice_fits (by omega) hbig)
    have hg1 : l.length + 1 ≤ grownCap w (l.length + 1) cap 3 := grownCap_ge w _ _ _
    have hg2 : grownCap w (l.length + 1) cap 3 ≤ maxLen := grownCap_le_maxLen w (l.length + 1) cap 3 (by unfold maxLen; omega)
    refine ⟨_, _, hr, ⟨w.heap.size, 0, grownCap w (l.length + 1) cap 3, _, by rw [List.length_append]; rfl, by rw [List.length_append]; exact hg1, hg2, hb, heap_alloc_new w.drew _, ?_, fun j hj => ?_⟩, ((Mod.refl _ w).drew).alloc _, .inr rfl⟩
    · simp only [Array.size_append, List.size_toArray, List.length_map, List.length_cons, List.length_nil]
      have : (Builtin.zeroCells (Value.int .i64 0).cells (grownCap w (l.length + 1) cap 3 - (l.length + 1))).size = (grownCap w (l.length + 1) cap 3 - (l.length + 1)) * 1 := by simp [Builtin.zeroCells, Value.cells]
      omega
    · rw [List.length_append, List.length_singleton] at hj
      rw [Nat.zero_add, Array.getElem?_append_left (by simp; omega)]
      rw [List.append_toArray, List.getElem?_toArray, show l.map (Value.int .i64) ++ [Value.int .i64 x] = (l ++ [x]).map (Value.int .i64) by simp, List.getElem?_map, List.getElem?_eq_getElem (by rw [List.length_append, List.length_singleton]; exact hj), List.getD_eq_getElem?_getD, List.getElem?_eq_getElem (by rw [List.length_append, List.length_singleton]; exact hj)]
      rfl
end Go.Proofs.Ytlopdbhjdijlmaa

namespace Go.Proofs.Ytlopdbhjdijlmaa
open Go.ChangeShapes Go.WideShapes Go.ChangeAt Go.RowKit
set_option linter.unusedSimpArgs false
set_option linter.unusedVariables false

/-- A block of 32 numbers: which were met. -/
def Met32 (w : World) (g : Nat) (f : Nat → Bool) : Prop :=
  ∃ cs : Array Value, w.heap[g]? = some (.cells cs 79 (0, 0)) ∧ cs.size = 32 ∧ ∀ i, i < 32 → cs[i]? = some (.int .i64 (if f i = true then 1 else 0))
theorem Met32.cell {w : World} {g : Nat} {f : Nat → Bool} (h : Met32 w g f) (i : Nat) (hi : i < 32) : w.cell? ⟨g, i, none⟩ = some (.int .i64 (if f i = true then 1 else 0)) := by
  obtain ⟨cs, hg, _, hc⟩ := h
  rw [cell_of_row _ _ _ _ _ _ hg]
  exact hc i hi
theorem Met32.frozen {w : World} {g : Nat} {f : Nat → Bool} (h : Met32 w g f) (i : Nat) : w.frozen? ⟨g, i, none⟩ = false := by
  obtain ⟨cs, hg, _⟩ := h
  exact frozen_of_row w g i cs _ hg
theorem Met32.mod {w w' : World} {g : Nat} {f : Nat → Bool} (h : Met32 w g f) {D : Nat → Prop} (hm : Mod D w w') (hg : ¬ D g) : Met32 w' g f := by
  obtain ⟨cs, hh, r⟩ := h
  exact ⟨cs, hm.heap hh hg, r⟩
theorem Met32.set {w : World} {g : Nat} {f : Nat → Bool} (h : Met32 w g f) (i : Nat) : Met32 (w.setCell ⟨g, i, none⟩ (.int .i64 1)) g (fun k => if k = i then true else f k) := by
  obtain ⟨cs, hh, h1, h4⟩ := h
  refine ⟨_, heap_setCell_same w g i cs _ _ hh, by simpa using h1, fun k hk => ?_⟩
  by_cases e : k = i
  · subst e
    rw [Array.getElem?_setIfInBounds]
    simp only [if_true]
    rw [if_pos (by omega)]
  · rw [Array.getElem?_setIfInBounds]
    rw [if_neg (fun h => e h.symm)]
    simp only [if_neg e]
    exact h4 k hk
abbrev z32i : Array Value := #[.int .i64 0, .int .i64 0, .int .i64 0, .int .i64 0, .int .i64 0, .int .i64 0, .int .i64 0, .int .i64 0, .int .i64 0, .int .i64 0, .int .i64 0, .int .i64 0, .int .i64 0, .int .i64 0, .int .i64 0, .int .i64 0, .int .i64 0, .int .i64 0, .int .i64 0, .int .i64 0, .int .i64 0, .int .i64 0, .int .i64 0, .int .i64 0, .int .i64 0, .int .i64 0, .int .i64 0, .int .i64 0, .int .i64 0, .int .i64 0, .int .i64 0, .int .i64 0]
theorem Met32.new (w : World) : Met32 (w.alloc (.cells z32i 79)) w.heap.size (fun _ => false) := by
  refine ⟨_, heap_alloc_new _ _, rfl, fun i hi => ?_⟩
  have e : z32i = (List.replicate 32 (Value.int .i64 0)).toArray := rfl
  rw [e, List.getElem?_toArray, List.getElem?_replicate, if_pos hi]
  rfl

/-- What a walk through a queue has told: who was taken out (T), who was met (f), who waits (q). -/
structure Walked (t : Nat → Ino) (d i : Int) (T : Int → Prop) (f : Nat → Bool) (q : List Int) : Prop where
  reach : ∀ y ∈ q, Reach t d y
  first : T d ∨ d ∈ q
  out : ∀ y, T y → y ≠ i ∧ ∀ k : Nat, k < 32 → y = (k : Int) → f k = true
  next : ∀ k : Nat, k < 32 → f k = true → ∀ z ∈ succL t (k : Int), T z ∨ z ∈ q
theorem Walked.done {t : Nat → Ino} {d i : Int} {T : Int → Prop} {f : Nat → Bool} (h : Walked t d i T f []) : belB t d i = false := by
  refine belB_false fun hr => ?_
  have := reach_closed (t := t) (d := d) (P := T) (by rcases h.first with h | h; exact h; cases h) (fun y z hy hz => by
    have hy2 : 0 ≤ y ∧ y < 32 := by
      unfold succL at hz
      split at hz
      · assumption
      · cases hz
    have hf := (h.out y hy).2 y.toNat (by omega) (by omega)
    have := h.next y.toNat (by omega) hf z (by rw [show ((y.toNat : Nat) : Int) = y by omega]; exact hz)
    rcases this with h | h
    · exact h
    · cases h) hr
  exact (h.out i this).1 rfl
/-- One is taken that goes nowhere new. -/
theorem Walked.skip {t : Nat → Ino} {d i : Int} {T : Int → Prop} {f : Nat → Bool} {x : Int} {q : List Int} (h : Walked t d i T f (x :: q)) (hx : x ≠ i) (hf : ∀ k : Nat, k < 32 → x = (k : Int) → f k = true) : Walked t d i (fun y => T y ∨ y = x) f q := by
  refine ⟨fun y hy => h.reach y (List.mem_cons_of_mem _ hy), ?_, fun y hy => ?_, fun k hk hfk z hz => ?_⟩
  · rcases h.first with g | g
    · exact .inl (.inl g)
    · rcases List.mem_cons.1 g with g | g
      · exact .inl (.inr g)
      · exact .inr g
  · rcases hy with hy | rfl
    · exact h.out y hy
    · exact ⟨hx, hf⟩
  · rcases h.next k hk hfk z hz with g | g
    · exact .inl (.inl g)
    · rcases List.mem_cons.1 g with g | g
      · exact .inl (.inr g)
      · exact .inr g
/-- One is taken and met; those behind it are put in the queue. -/
theorem Walked.meet {t : Nat → Ino} {d i : Int} {T : Int → Prop} {f : Nat → Bool} {k : Nat} {q : List Int} (h : Walked t d i T f ((k : Int) :: q)) (hk : k < 32) (hx : (k : Int) ≠ i) :
    Walked t d i (fun y => T y ∨ y = (k : Int)) (fun m => if m = k then true else f m) (q ++ (t k).ents.map En.ino) := by
  have hs : succL t (k : Int) = (t k).ents.map En.ino := by unfold succL; rw [if_pos (by omega), Int.toNat_natCast]
  refine ⟨fun y hy => ?_, ?_, fun y hy => ?_, fun m hm hfm z hz => ?_⟩
  · rcases List.mem_append.1 hy with hy | hy
    · exact h.reach y (List.mem_cons_of_mem _ hy)
    · exact .step (h.reach (k : Int) (by simp)) (by rw [hs]; exact hy)
  · rcases h.first with g | g
    · exact .inl (.inl g)
    · rcases List.mem_cons.1 g with g | g
      · exact .inl (.inr g)
      · exact .inr (List.mem_append_left _ g)
  · rcases hy with hy | rfl
    · refine ⟨(h.out y hy).1, fun m hm e => ?_⟩
      show (if m = k then true else f m) = true
      split
      · rfl
      · exact (h.out y hy).2 m hm e
    · refine ⟨hx, fun m hm e => ?_⟩
      show (if m = k then true else f m) = true
      rw [if_pos (by omega)]
  · by_cases e : m = k
    · subst e
      rw [hs] at hz
      exact .inr (List.mem_append_right _ hz)
    · have hfm' : f m = true := by simpa [if_neg e] using hfm
      rcases h.next m hm hfm' z hz with g | g
      · exact .inl (.inl g)
      · rcases List.mem_cons.1 g with g | g
        · exact .inl (.inr g)
        · exact .inr (List.mem_append_left _ g)
theorem cntF_meet {f : Nat → Bool} {k : Nat} (hk : k < 32) (hf : f k = false) : cntF f 32 < cntF (fun m => if m = k then true else f m) 32 :=
  cntF_lt 32 (fun m _ h => by show (if m = k then true else f m) = true; split; rfl; exact h) k hk hf (by show (if k = k then true else f k) = true; rw [if_pos rfl])

/-- What is got of an inode of a table. -/
theorem get9 {w : World} {p : Nat} {D : Nat → Prop} {S : Sh} {t : Nat → Ino} {xs : Nat → List Nat} {room : Nat} (h : SheetAt w p D S) (ht : TabR S t xs room) (hf : ∀ k, k < 32 → (t k).format = 0 → (t k).ents = []) {k : Nat} (hk : k < 32) :
    Calls Try.prog 26 #[.pointer (some ⟨p, 0, none⟩), .int .i64 (k : Nat)] w fun e w' => ∃ (m : Ino) (ea xa : Option Addr) (ec xn xc : Nat) (E : Int), e = .returned (.tuple #[.agg (inoL m (.slice ea (t k).ents.length ec)).toArray, .slice xa xn xc, .int .i64 E]) ∧ m.bl.length = 13 ∧ HoldsE w' (.slice ea (t k).ents.length ec) (t k).ents ∧ (∀ g, (Value.slice ea (t k).ents.length ec).ownBlock = some g → w.heap.size ≤ g) ∧ Below w.heap.size w w' := by
  have hg := get_ino h (k : Nat)
  rcases ht.get hk with ⟨h0, -, e1, e2, -⟩ | ⟨h0, -, e1, e2, -⟩
  · rw [e1, e2] at hg
    refine hg.mono ?_
    rintro e w' ⟨hb, rfl⟩
    rw [hf k hk h0]
    exact ⟨ino0, none, none, 0, 0, 0, 2, rfl, rfl, HoldsE.nil w', (fun g e => by cases e), hb⟩
  · rw [e1, e2] at hg
    refine hg.mono ?_
    rintro e w' ⟨hb, mv, xv, rfl, hmv, hxv, hge, -⟩
    have hl := (ht.inn k hk h0).2.2.1.len
    have hmv2 := hmv
    obtain ⟨ea, ec, rfl, -⟩ := hmv2
    obtain ⟨xa, xc, rfl, -⟩ := hxv
    exact ⟨t k, ea, xa, ec, _, xc, 0, rfl, hl, hmv, hge, hb⟩
end Go.Proofs.Ytlopdbhjdijlmaa
