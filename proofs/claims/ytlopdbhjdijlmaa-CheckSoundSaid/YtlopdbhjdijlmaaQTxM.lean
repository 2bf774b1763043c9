/-
  A sheet as plain functions: words beneath, words now, and what each put was laid over. No program here.
  What the functions of package tx answer: contracts, over a sheet that is known by its words. No condition but the bounds that are typed.
  What slices.Clone at words, tx.New, tx.Words, tx.Pairs, tx.Block and tx.Inode answer: contracts. No condition but the bounds that are typed.
-/
import Derived.Test.YtlopdbhjdijlmaaQLib
import Derived.Laws.CopyOwn
import Derived.Laws.AppendOwnNone

namespace Go.Proofs.Ytlopdbhjdijlmaa

structure Sh where
  beneath : Nat → Int
  now : Nat → Int
  was : List (Nat × Int)

def upd (f : Nat → Int) (i : Nat) (v : Int) : Nat → Int := fun k => if k = i then v else f k

def Sh.get (S : Sh) (i : Int) : Int := if 0 ≤ i ∧ i < 3128 then S.now i.toNat else 0
def Sh.put (S : Sh) (i : Int) (v : Int) : Sh := if 0 ≤ i ∧ i < 3128 then { S with now := upd S.now i.toNat v, was := S.was ++ [(i.toNat, S.now i.toNat)] } else S

/-- All words fit, all places are places. -/
structure Sh.Ok (S : Sh) : Prop where
  beneath : ∀ i, 0 ≤ S.beneath i ∧ S.beneath i < 18446744073709551616
  now : ∀ i, 0 ≤ S.now i ∧ S.now i < 18446744073709551616
  was : ∀ x ∈ S.was, x.1 < 3128 ∧ 0 ≤ x.2 ∧ x.2 < 18446744073709551616

theorem Sh.Ok.put {S : Sh} (h : S.Ok) (i v : Int) (h0 : 0 ≤ v) (h1 : v < 18446744073709551616) : (S.put i v).Ok := by
  unfold Sh.put
  split
  · refine ⟨h.beneath, fun k => ?_, fun x hx => ?_⟩
    · simp only [upd]
      split
      · exact ⟨h0, h1⟩
      · exact h.now k
    · rcases List.mem_append.1 hx with hx | hx
      · exact h.was x hx
      · simp at hx
        subst hx
        have := h.now i.toNat
        exact ⟨by omega, this.1, this.2⟩
  · exact h

theorem Sh.Ok.get {S : Sh} (h : S.Ok) (i : Int) : 0 ≤ S.get i ∧ S.get i < 18446744073709551616 := by
  unfold Sh.get
  split
  · exact h.now _
  · omega

theorem Sh.put_was_le (S : Sh) (i v : Int) : (S.put i v).was.length ≤ S.was.length + 1 := by
  unfold Sh.put
  split <;> simp

/-- A put undone. -/
def Sh.undo (S : Sh) : Sh := match S.was.getLast? with
  | none => S
  | some x => { S with now := upd S.now x.1 x.2, was := S.was.dropLast }

def Sh.undoN (S : Sh) : Nat → Sh
  | 0 => S
  | n + 1 => (S.undo).undoN n

/-- All puts behind a mark undone. -/
def Sh.back (S : Sh) (m : Int) : Sh := S.undoN (S.was.length - m.toNat)

theorem Sh.undo_was (S : Sh) : S.undo.was = S.was.dropLast := by
  unfold Sh.undo
  cases h : S.was.getLast? with
  | none => simp only; rw [List.getLast?_eq_none_iff.1 h]; rfl
  | some x => rfl

theorem Sh.Ok.undo {S : Sh} (h : S.Ok) : S.undo.Ok := by
  unfold Sh.undo
  cases hl : S.was.getLast? with
  | none => exact h
  | some x =>
    have hx := h.was x (List.mem_of_getLast? hl)
    refine ⟨h.beneath, fun k => ?_, fun y hy => h.was y (List.dropLast_subset _ hy)⟩
    simp only [upd]
    split
    · exact hx.2
    · exact h.now k

/-- A sheet over words. -/
def Sh.new (l : List Int) : Sh := ⟨fun i => if i < 3128 then l.getD i 0 else 0, fun i => if i < 3128 then l.getD i 0 else 0, []⟩

theorem Sh.Ok.new {l : List Int} (h : ∀ z ∈ l, 0 ≤ z ∧ z < 18446744073709551616) : (Sh.new l).Ok := by
  have : ∀ i : Nat, 0 ≤ (if i < 3128 then l.getD i 0 else 0) ∧ (if i < 3128 then l.getD i 0 else 0) < 18446744073709551616 := by
    intro i
    split
    · by_cases hi : i < l.length
      · rw [List.getD_eq_getElem?_getD, List.getElem?_eq_getElem hi]
        exact h _ (List.getElem_mem hi)
      · rw [List.getD_eq_getElem?_getD, List.getElem?_eq_none (by omega)]
        simp
    · omega
  exact ⟨this, this, by simp [Sh.new]⟩

end Go.Proofs.Ytlopdbhjdijlmaa

namespace Go.Proofs.Ytlopdbhjdijlmaa
open Go.ChangeShapes Go.WideShapes Go.ChangeAt Go.RowKit
set_option linter.unusedSimpArgs false
set_option linter.unusedVariables false

theorem Try.infoU64 : (Try.prog.info? 37).map (fun i => (i.zero, i.size, i.bytes)) = some (some (.int .u64 0), 1, 8) := by kernel_rfl
theorem Try.infoPair : (Try.prog.info? 67).map (fun i => (i.zero, i.size, i.bytes)) = some (some (.agg #[.int .i64 0, .int .u64 0]), 2, 16) := by kernel_rfl

def pairCells (l : List (Nat × Int)) : List Value := l.flatMap fun x => [.int .i64 x.1, .int .u64 x.2]

theorem pairCells_append (a b : List (Nat × Int)) : pairCells (a ++ b) = pairCells a ++ pairCells b := by simp [pairCells]
theorem pairCells_length (l : List (Nat × Int)) : (pairCells l).length = l.length * 2 := by
  induction l with
  | nil => rfl
  | cons x l ih =>
    have : pairCells (x :: l) = [.int .i64 x.1, .int .u64 x.2] ++ pairCells l := rfl
    rw [this, List.length_append, ih]
    simp; omega

/-- A block that holds 3128 words at least. -/
def Words (w : World) (g c : Nat) (f : Nat → Int) : Prop :=
  ∃ cs : Array Value, w.heap[g]? = some (.cells cs 37 (0, 0)) ∧ cs.size = c ∧ 3128 ≤ c ∧ c ≤ maxLen ∧ ∀ i, i < 3128 → cs[i]? = some (.int .u64 (f i))

theorem Words.cell {w : World} {g c : Nat} {f : Nat → Int} (h : Words w g c f) (i : Nat) (hi : i < 3128) : w.cell? ⟨g, i, none⟩ = some (.int .u64 (f i)) := by
  obtain ⟨cs, hg, _, _, _, hc⟩ := h
  rw [cell_of_row _ _ _ _ _ _ hg]
  exact hc i hi

theorem Words.frozen {w : World} {g c : Nat} {f : Nat → Int} (h : Words w g c f) (i : Nat) : w.frozen? ⟨g, i, none⟩ = false := by
  obtain ⟨cs, hg, _⟩ := h
  exact frozen_of_row w g i cs _ hg

theorem Words.mod {w w' : World} {g c : Nat} {f : Nat → Int} (h : Words w g c f) {D : Nat → Prop} (hm : Mod D w w') (hg : ¬ D g) : Words w' g c f := by
  obtain ⟨cs, hh, r⟩ := h
  exact ⟨cs, hm.heap hh hg, r⟩

theorem Words.lt {w : World} {g c : Nat} {f : Nat → Int} (h : Words w g c f) : g < w.heap.size := by
  obtain ⟨cs, hh, r⟩ := h
  exact lt_of_block hh

theorem Words.set {w : World} {g c : Nat} {f : Nat → Int} (h : Words w g c f) (i : Nat) (v : Int) : Words (w.setCell ⟨g, i, none⟩ (.int .u64 v)) g c (upd f i v) := by
  obtain ⟨cs, hh, h1, h2, h3, h4⟩ := h
  refine ⟨_, heap_setCell_same w g i cs _ _ hh, by simpa using h1, h2, h3, fun k hk => ?_⟩
  simp only [upd]
  by_cases e : k = i
  · subst e
    rw [if_pos rfl, Array.getElem?_setIfInBounds]
    simp only [if_true]
    rw [if_pos (by omega)]
  · rw [if_neg e, Array.getElem?_setIfInBounds]
    rw [if_neg (fun h => e h.symm)]
    exact h4 k hk

/-- The sheet's blocks. -/
structure SheetR (w : World) (p : Nat) (D : Nat → Prop) (S : Sh) (pb nb cb cn : Nat) (wv : Value) : Prop where
  head : w.heap[p]? = some (.cells #[.slice (some ⟨pb, 0, none⟩) 3128 cb, .slice (some ⟨nb, 0, none⟩) 3128 cn, wv] 103 (0, 0))
  beneath : Words w pb cb S.beneath
  now : Words w nb cn S.now
  was : w.ownsRow 0 67 2 wv S.was.length (pairCells S.was)
  ok : S.Ok
  pbp : pb ≠ p
  nbp : nb ≠ p
  npb : nb ≠ pb
  wvp : ∀ g, wv.ownBlock = some g → g ≠ p ∧ g ≠ pb ∧ g ≠ nb
  dp : D p
  dpb : D pb
  dnb : D nb
  dw : ∀ g, wv.ownBlock = some g → D g
  lt : ∀ b, D b → b < w.heap.size

def SheetAt (w : World) (p : Nat) (D : Nat → Prop) (S : Sh) : Prop := ∃ pb nb cb cn wv, SheetR w p D S pb nb cb cn wv

theorem SheetAt.ok {w : World} {p : Nat} {D : Nat → Prop} {S : Sh} (h : SheetAt w p D S) : S.Ok := by
  obtain ⟨_, _, _, _, _, h⟩ := h
  exact h.ok

theorem SheetAt.lt {w : World} {p : Nat} {D : Nat → Prop} {S : Sh} (h : SheetAt w p D S) : ∀ b, D b → b < w.heap.size := by
  obtain ⟨_, _, _, _, _, h⟩ := h
  exact h.lt

/-- A sheet stays where its blocks are not written. -/
theorem SheetAt.mod {w w' : World} {p : Nat} {D D0 : Nat → Prop} {S : Sh} (h : SheetAt w p D S) (hm : Mod D0 w w') (hd : ∀ b, D b → ¬ D0 b) : SheetAt w' p D S := by
  obtain ⟨pb, nb, cb, cn, wv, h⟩ := h
  exact ⟨pb, nb, cb, cn, wv, hm.heap h.head (hd _ h.dp), h.beneath.mod hm (hd _ h.dpb), h.now.mod hm (hd _ h.dnb), hm.own h.was (fun g hg => hd _ (h.dw g hg)), h.ok, h.pbp, h.nbp, h.npb, h.wvp, h.dp, h.dpb, h.dnb, h.dw,
    fun b hb => Nat.lt_of_lt_of_le (h.lt b hb) hm.size⟩

theorem SheetAt.mono {w : World} {p : Nat} {D D' : Nat → Prop} {S : Sh} (h : SheetAt w p D S) (hd : ∀ b, D b → D' b) (hl : ∀ b, D' b → b < w.heap.size) : SheetAt w p D' S := by
  obtain ⟨pb, nb, cb, cn, wv, h⟩ := h
  exact ⟨pb, nb, cb, cn, wv, h.head, h.beneath, h.now, h.was, h.ok, h.pbp, h.nbp, h.npb, h.wvp, hd _ h.dp, hd _ h.dpb, hd _ h.dnb, fun g hg => hd _ (h.dw g hg), hl⟩

theorem SheetAt.drew {w : World} {p : Nat} {D : Nat → Prop} {S : Sh} (h : SheetAt w p D S) : SheetAt w.drew p D S :=
  h.mod (D0 := nob) ((Mod.refl nob w).drew) (fun _ _ h => h)

theorem in_any (i : Int) (w : World) : Calls Try.prog 65 #[.int .i64 i] w fun e w' => e = .returned (.bool (decide (0 ≤ i ∧ i < 3128))) ∧ w = w' := by
  by_cases h : 0 ≤ i
  · go_enter Try.func65, Try.ntmps65
    go_wp2
    go_ret
    simp [h]
  · go_enter Try.func65, Try.ntmps65
    go_wp2
    go_ret
    simp
    omega

theorem sheet_get {w : World} {p : Nat} {D : Nat → Prop} {S : Sh} (h : SheetAt w p D S) (i : Int) :
    Calls Try.prog 37 #[.pointer (some ⟨p, 0, none⟩), .int .i64 i] w fun e w' => e = .returned (.int .u64 (S.get i)) ∧ w = w' := by
  obtain ⟨pb, nb, cb, cn, wv, h⟩ := h
  by_cases hi : 0 ≤ i ∧ i < 3128
  · obtain ⟨n, rfl⟩ := Int.eq_ofNat_of_zero_le hi.1
    have hn : n < 3128 := by omega
    have hc1 : w.cell? ⟨p, 1, none⟩ = some (.slice (some ⟨nb, 0, none⟩) 3128 cn) := by rw [cell_of_row _ _ _ _ _ _ h.head]; rfl
    have hc2 := h.now.cell n hn
    have hb : decide (0 ≤ (n : Int) ∧ (n : Int) < 3128) = true := by simpa using hi
    have hfin : S.get n = S.now n := by unfold Sh.get; rw [if_pos hi]; rfl
    generalize S.get n = x at hfin ⊢
    have Hfin := Lib.hid hfin
    have Hb := Lib.hid hb
    clear hfin h hb hi
    go_enter Try.func37, Try.ntmps37
    go_wp2_with (go_at_call 65; refine (in_any _ _).mono ?_; rintro e w' ⟨rfl, rfl⟩; rw [Hb.out])
    go_ret
    rw [Hfin.out]
    exact ⟨rfl, rfl⟩
  · have hb : decide (0 ≤ i ∧ i < 3128) = false := by simpa using hi
    have Hfin : Hid (S.get i = 0) := by simp only [Hid, Sh.get]; rw [if_neg hi]
    have Hb := Lib.hid hb
    clear h hb hi
    go_enter Try.func37, Try.ntmps37
    go_wp2_with (go_at_call 65; refine (in_any _ _).mono ?_; rintro e w' ⟨rfl, rfl⟩; rw [Hb.out])
    go_ret
    rw [Hfin.out]
    exact ⟨rfl, rfl⟩

theorem sheet_mark {w : World} {p : Nat} {D : Nat → Prop} {S : Sh} (h : SheetAt w p D S) :
    Calls Try.prog 32 #[.pointer (some ⟨p, 0, none⟩)] w fun e w' => e = .returned (.int .i64 S.was.length) ∧ w = w' := by
  obtain ⟨pb, nb, cb, cn, wv, h⟩ := h
  obtain ⟨ao, cap, hwv, _⟩ := own_shape h.was
  have hc2 : w.cell? ⟨p, 2, none⟩ = some (.slice ao S.was.length cap) := by rw [cell_of_row _ _ _ _ _ _ h.head, ← hwv]; rfl
  clear h hwv
  go_enter Try.func32, Try.ntmps32
  go_wp2
  go_ret
  exact ⟨rfl, rfl⟩

theorem put_keeps {w w0 w1 : World} {row : Option Nat} {a : Addr} {v : Value} (hg : w0.grownBy w1 row) (hl : a.block < w.heap.size) (hr : some a.block ≠ row) (hc : w.cell? a = some v) (hf : w.frozen? a = false)
    (h0 : w0.heap[a.block]? = w.heap[a.block]? := by rfl) (hs : w.heap.size ≤ w0.heap.size := by simp) : w1.cell? a = some v ∧ w1.frozen? a = false := by
  have e : w1.heap[a.block]? = w.heap[a.block]? := (hg.block a.block (by omega) hr).trans h0
  exact ⟨by rw [World.cell?_of_block e]; exact hc, by rw [World.frozen?_of_block e]; exact hf⟩

theorem head_set {w : World} {p : Nat} {a b c d : Value} {t : TypeId} (h : w.heap[p]? = some (.cells #[a, b, c] t (0, 0))) : (w.setCell ⟨p, 2, none⟩ d).heap[p]? = some (.cells #[a, b, d] t (0, 0)) := by
  rw [heap_setCell_same w p 2 _ t d h]
  rfl

/-- Behind the append and the store into the field. -/
theorem put_mid {w w1 : World} {p : Nat} {D : Nat → Prop} {S : Sh} {pb nb cb cn : Nat} {wv : Value} (h : SheetR w p D S pb nb cb cn wv) {o : Obj} (hgrow : (w.alloc o).drew.grownBy w1 wv.ownBlock) {gg cap : Nat} {x : Nat × Int}
    (hx : x.1 < 3128 ∧ 0 ≤ x.2 ∧ x.2 < 18446744073709551616)
    (hown : w1.ownsRow 0 67 2 (.slice (some ⟨gg, 0, none⟩) (S.was.length + 1) cap) (S.was.length + 1) (pairCells S.was ++ [.int .i64 x.1, .int .u64 x.2])) (hat : wv.ownBlock = some gg ∨ gg = w.heap.size + 1) (hlt : gg < w1.heap.size) :
    SheetR (w1.setCell ⟨p, 2, none⟩ (.slice (some ⟨gg, 0, none⟩) (S.was.length + 1) cap)) p (grow D w (w1.setCell ⟨p, 2, none⟩ (.slice (some ⟨gg, 0, none⟩) (S.was.length + 1) cap))) { S with was := S.was ++ [x] } pb nb cb cn (.slice (some ⟨gg, 0, none⟩) (S.was.length + 1) cap) ∧
      Mod D w (w1.setCell ⟨p, 2, none⟩ (.slice (some ⟨gg, 0, none⟩) (S.was.length + 1) cap)) := by
  have hm : Mod (fun b => wv.ownBlock = some b) w w1 := by
    have h1 := mod_of_grown hgrow
    exact (((Mod.refl _ w).alloc o).drew).trans (h1.mono (fun b _ hb => .inl hb))
  have hlp := lt_of_block h.head
  have hlpb := h.beneath.lt
  have hlnb := h.now.lt
  have hgp : gg ≠ p ∧ gg ≠ pb ∧ gg ≠ nb := by
    rcases hat with e | e
    · exact h.wvp gg e
    · omega
  have hsz := hm.size
  have hm2 : Mod (fun b => b = p) w1 (w1.setCell ⟨p, 2, none⟩ (.slice (some ⟨gg, 0, none⟩) (S.was.length + 1) cap)) := (Mod.refl (fun b => b = p) w1).setCell (.inl rfl) _
  have hs2 : (w1.setCell ⟨p, 2, none⟩ (.slice (some ⟨gg, 0, none⟩) (S.was.length + 1) cap)).heap.size = w1.heap.size := by simp [World.setCell]
  have hmod : Mod D w (w1.setCell ⟨p, 2, none⟩ (.slice (some ⟨gg, 0, none⟩) (S.was.length + 1) cap)) :=
    (hm.mono (fun b _ hb => h.dw b hb)).trans (hm2.mono (fun b _ hb => by subst hb; exact .inl h.dp))
  refine ⟨⟨head_set (hm.heap h.head (fun e => (h.wvp p e).1 rfl)), (h.beneath.mod hm (fun e => (h.wvp pb e).2.1 rfl)).mod hm2 h.pbp, (h.now.mod hm (fun e => (h.wvp nb e).2.2 rfl)).mod hm2 h.nbp, ?_, ⟨h.ok.beneath, h.ok.now, ?_⟩,
    h.pbp, h.nbp, h.npb, ?_, .inl h.dp, .inl h.dpb, .inl h.dnb, ?_, ?_⟩, hmod⟩
  · have := hm2.own hown (fun g hg => by simp [Value.ownBlock] at hg; subst hg; exact hgp.1)
    simpa [pairCells] using this
  · intro y hy
    rcases List.mem_append.1 hy with hy | hy
    · exact h.ok.was y hy
    · simp at hy
      subst hy
      exact hx
  · intro g hg
    simp [Value.ownBlock] at hg
    subst hg
    exact hgp
  · intro g hg
    simp [Value.ownBlock] at hg
    subst hg
    rcases hat with e | e
    · exact .inl (h.dw _ e)
    · exact .inr ⟨by omega, by omega⟩
  · intro b hb
    rcases hb with hb | hb
    · have := h.lt b hb; omega
    · exact hb.2

/-- A word stored. -/
theorem SheetR.store {w : World} {p : Nat} {D : Nat → Prop} {S : Sh} {pb nb cb cn : Nat} {wv : Value} (h : SheetR w p D S pb nb cb cn wv) (n : Nat) (v : Int) (h0 : 0 ≤ v) (h1 : v < 18446744073709551616) :
    SheetR (w.setCell ⟨nb, n, none⟩ (.int .u64 v)) p D { S with now := upd S.now n v } pb nb cb cn wv := by
  have hm : Mod (fun b => b = nb) w (w.setCell ⟨nb, n, none⟩ (.int .u64 v)) := (Mod.refl (fun b => b = nb) w).setCell (.inl rfl) _
  refine ⟨hm.heap h.head (fun e => h.nbp e.symm), h.beneath.mod hm (fun e => h.npb e.symm), h.now.set n v, hm.own h.was (fun g hg e => (h.wvp g hg).2.2 e), ⟨h.ok.beneath, fun k => ?_, h.ok.was⟩, h.pbp, h.nbp, h.npb, h.wvp, h.dp, h.dpb, h.dnb, h.dw, fun b hb => by simpa [World.setCell] using h.lt b hb⟩
  simp only [upd]
  split
  · exact ⟨h0, h1⟩
  · exact h.ok.now k

def PutMid (w : World) (p : Nat) (D : Nat → Prop) (S : Sh) (n pb nb cb cn : Nat) (wc : World) : Prop :=
  ∃ wv2, SheetR wc p (grow D w wc) { S with was := S.was ++ [(n, S.now n)] } pb nb cb cn wv2 ∧ Mod D w wc

set_option maxRecDepth 20000 in
set_option maxHeartbeats 800000 in
theorem sheet_put {w : World} {p : Nat} {D : Nat → Prop} {S : Sh} (h : SheetAt w p D S) (hlen : S.was.length < 1099511627776) (i v : Int) (h0 : 0 ≤ v) (h1 : v < 18446744073709551616) :
    Calls Try.prog 31 #[.pointer (some ⟨p, 0, none⟩), .int .i64 i, .int .u64 v] w fun e w' => e = .returned (.tuple #[]) ∧ SheetAt w' p (grow D w w') (S.put i v) ∧ Mod D w w' := by
  have hfull := Lib.hid h
  obtain ⟨i0, hi0, hz0, hz1, hz2⟩ := info_parts Try.infoPair
  obtain ⟨pb, nb, cb, cn, wv, h⟩ := h
  by_cases hi : 0 ≤ i ∧ i < 3128
  · obtain ⟨n, rfl⟩ := Int.eq_ofNat_of_zero_le hi.1
    have hn : n < 3128 := by omega
    obtain ⟨ao, cap, hwv, _, _, hao⟩ := own_shape h.was
    have HW := Lib.hid h.was
    have hc1 : w.cell? ⟨p, 1, none⟩ = some (.slice (some ⟨nb, 0, none⟩) 3128 cn) := by rw [cell_of_row _ _ _ _ _ _ h.head]; rfl
    have hc2 : w.cell? ⟨p, 2, none⟩ = some wv := by rw [cell_of_row _ _ _ _ _ _ h.head]; rfl
    have hfz : w.frozen? ⟨p, 2, none⟩ = false := frozen_of_row _ _ _ _ _ h.head
    have hc3 := h.now.cell n hn
    have H := Lib.hid h
    have Hb : Hid (decide (0 ≤ (n : Int) ∧ (n : Int) < 3128) = true) := by simpa [Hid] using hi
    generalize hx : S.now n = x at hc3
    have HX := Lib.hid hx
    clear h hi hao hwv hx
    go_enter Try.func31, Try.ntmps31
    go_wp2_with (go_at_call 65; refine (in_any _ _).mono ?_; rintro e w' ⟨rfl, rfl⟩; rw [Hb.out])
    have ak : wv.ownBlock ≠ some p := fun e => (H.out.wvp p e).1 rfl
    have av : wv.ownBlock ≠ some nb := fun e => (H.out.wvp nb e).2.2 rfl
    have hlp : p < w.heap.size := lt_of_block H.out.head
    have hln : nb < w.heap.size := H.out.now.lt
    have hn0 : (0 : Int) ≤ (n : Int) := Int.natCast_nonneg _
    have hn1 : (n : Int) < 3128 := by omega
    go_upto_region 1 with (fail)
    go_cut [23] (fun _ wc => PutMid w p D S n pb nb cb cn wc)
    case first =>
      generalize hlenS : S.was.length = m at hlen HW
      go_region_law
        ((refine step_append_lies _ (by rfl) _ _ _ (by rfl) 0 67 i0 _ 2 16 Try.underlying63 hi0 hz0 hz1 hz2 rfl (by omega) wv m (pairCells S.was) (by rfl) ((HW.out.alloc _).drew) ⟨w.heap.size, 0, none⟩ 1 1 [.int .i64 n, .int .u64 x] (by rfl) (by rfl) (World.news_of_block (cs := #[.int .i64 n, .int .u64 x]) (t := 67) (fr := (0, 0)) (heap_alloc_new w _)) (by simp [Value.oneCell']) (by omega) (by unfold maxLen; omega) (by omega) (by simp) (w.heap.size + 1) (by simp) ?_; intro gg cap w1 hown1 hgrow hat hlt; have hs1 := (put_keeps hgrow hlp (Ne.symm ak) hc2 hfz (Below.heap_alloc _ _ _ hlp)); obtain ⟨hs2, hs3⟩ := hs1))
      all_goals
        go_wp2_with fail
        go_meet
        case rel =>
          subst hlenS
          have hXX := HX.out
          subst hXX
          have hok := H.out.ok.now n
          exact ⟨_, put_mid H.out hgrow (x := (n, S.now n)) ⟨hn, hok⟩ hown1 hat hlt⟩
    case rest =>
      obtain ⟨wv2, hr, hmod⟩ := hcut
      have hd1 : wc.cell? ⟨p, 1, none⟩ = some (.slice (some ⟨nb, 0, none⟩) 3128 cn) := by rw [cell_of_row _ _ _ _ _ _ hr.head]; rfl
      have hd2 := hr.now.cell n hn
      have hd3 := hr.now.frozen n
      have HR := Lib.hid hr
      clear hr
      go_wp2
      go_end0
      refine ⟨rfl, ⟨pb, nb, cb, cn, wv2, ?_⟩, hmod.setCell (.inl H.out.dnb) _⟩
      have e : S.put n v = { S with now := upd S.now n v, was := S.was ++ [(n, S.now n)] } := by
        unfold Sh.put
        rw [if_pos ⟨hn0, hn1⟩]
        rfl
      rw [e]
      have hst := HR.out.store n v h0 h1
      have hg : grow D w (wc.setCell ⟨nb, n, none⟩ (.int .u64 v)) = grow D w wc := by
        unfold grow
        simp [World.setCell]
      rw [hg]
      exact hst
  · have hb : decide (0 ≤ i ∧ i < 3128) = false := by simpa using hi
    have Hfin : Hid (S.put i v = S) := by simp only [Hid, Sh.put]; rw [if_neg hi]
    have Hb := Lib.hid hb
    clear h hb hi
    go_enter Try.func31, Try.ntmps31
    go_wp2_with (go_at_call 65; refine (in_any _ _).mono ?_; rintro e w' ⟨rfl, rfl⟩; rw [Hb.out])
    go_end0
    rw [Hfin.out]
    exact ⟨rfl, hfull.out.mono (fun b hb => .inl hb) (fun b hb => hfull.out.lt b (grow_refl.1 hb)), Mod.refl _ _⟩
end Go.Proofs.Ytlopdbhjdijlmaa

namespace Go.Proofs.Ytlopdbhjdijlmaa
open Go.ChangeShapes Go.WideShapes Go.ChangeAt Go.RowKit
set_option linter.unusedSimpArgs false
set_option linter.unusedVariables false

def u64s (xs : List Int) : List Value := xs.map (Value.int .u64)

/-- What a slice value of words holds, in whatever block. -/
def HoldsU (w : World) (v : Value) (xs : List Int) : Prop :=
  ∃ ao c, v = .slice ao xs.length c ∧ (ao = none → c = 0) ∧ xs.length ≤ c ∧ c ≤ maxLen ∧ (∀ ad, ao = some ad → ∀ j u, (u64s xs)[j]? = some u → w.cell? (ad.add j) = some u)

theorem HoldsU.nil (w : World) : HoldsU w (.slice none 0 0) [] := ⟨none, 0, rfl, fun _ => rfl, Nat.le_refl _, Nat.zero_le _, fun ad h => by cases h⟩

theorem holdsU_of_own {w : World} {base : Nat} {v : Value} {xs : List Int} (h : w.ownsRow base 37 1 v xs.length (u64s xs)) : HoldsU w v xs := by
  obtain ⟨ao, cap, rfl, h1, h2, h3⟩ := own_shape h
  refine ⟨ao, cap, rfl, ?_, h1, h2, ?_⟩
  · rintro rfl
    rcases h.2 with ⟨hv, _⟩ | ⟨g, c, cur, hv, _⟩
    · simp at hv; exact hv.2
    · simp at hv
  · rintro ad rfl j u hu
    obtain ⟨_, _, e⟩ := h3 ad rfl
    rw [e] at h ⊢
    exact h.cells rfl j u hu

theorem clone_u64 {w : World} {v : Value} {xs : List Int} (hv : HoldsU w v xs) (hlen : xs.length ≤ 17592186044416) :
    Calls Try.prog 64 #[v] w fun e w' => ∃ v', e = .returned v' ∧ w'.ownsRow w.heap.size 37 1 v' xs.length (u64s xs) ∧ Below w.heap.size w w' := by
  obtain ⟨i0, hi0, hz0, hz1, hz2⟩ := info_parts Try.infoU64
  obtain ⟨ao, c, rfl, hao, hlc, hcm, hcells⟩ := hv
  have heq := fun wx => Lib.run_eql_slice_nil (P := Try.prog) wx 75 37 ao xs.length c 0 0 Try.underlying75
  have HC := Lib.hid hcells
  clear hcells
  unfold maxLen at hcm
  cases ao with
  | none =>
    obtain rfl : c = 0 := hao rfl
    have hx : xs = [] := List.eq_nil_of_length_eq_zero (by omega)
    subst hx
    clear hao
    simp only [List.length_nil] at heq ⊢
    go_enter Try.func64, Try.ntmps64
    go_wp2
    go_ret
    exact ⟨_, rfl, World.ownsRow_nil _ _ _ _, Below.refl _ _⟩
  | some ad =>
    clear hao
    have HN : Hid (∀ j u, (u64s xs)[j]? = some u → (w.alloc (.cells #[] 37)).cell? (ad.add j) = some u) := by
      intro j u hu
      have := HC.out ad rfl j u hu
      rw [World.cell?_alloc_some _ _ _ (by rw [this]; rfl)]
      exact this
    have hone : ∀ u ∈ u64s xs, u.oneCell' = true := ints_oneCell _ _
    have HO := Lib.hid hone
    have hl : (u64s xs).length = xs.length * 1 := by simp [u64s]
    have HL := Lib.hid hl
    clear hone hl
    go_enter Try.func64, Try.ntmps64
    go_wp2_with (at_builtin; refine wpList_append_own _ rfl (.tmp 5) (.tmp 6) 75 rfl w.heap.size 37 i0 (.int .u64 0) 1 8 Try.underlying75 hi0 hz0 hz1 hz2 rfl (by decide) _ 0 [] rfl (World.ownsRow_lit w #[] 0 (Nat.le_refl _) (Nat.zero_le _) rfl) ad xs.length c (u64s xs) rfl HL.out HN.out HO.out (by unfold maxLen; omega) (by omega) (by simp) ?_)
    intro v' w1 hown1 hgr1 _
    have Hown := Lib.hid hown1
    have Hgr := Lib.hid hgr1
    clear hown1 hgr1
    go_wp2
    go_ret
    exact ⟨v', rfl, Hown.out, ((Below.refl _ _).alloc (Nat.le_refl _) _).grown Hgr.out (by simp) (by intro k hk; simp [Value.ownBlock] at hk; omega)⟩

theorem block_any (n : Int) (w : World) :
    Calls Try.prog 105 #[.int .i64 n] w fun e w' => e = .returned (.int .i64 (if n < 0 ∨ 256 ≤ n then -1 else 1080 + n * 8)) ∧ w = w' := by
  by_cases h1 : n < 0
  · go_enter Try.func105, Try.ntmps105
    go_wp2
    go_ret
    simp [h1]
  · by_cases h2 : 256 ≤ n
    · go_enter Try.func105, Try.ntmps105
      go_wp2
      go_ret
      simp [h2]
    · have h3 : 0 ≤ n := by omega
      have h4 : n < 256 := by omega
      go_enter Try.func105, Try.ntmps105
      go_wp2
      go_ret
      simp [h1, h2]

theorem inode_any (n : Int) (w : World) :
    Calls Try.prog 53 #[.int .i64 n] w fun e w' => e = .returned (.int .i64 (if n < 0 ∨ 32 ≤ n then -1 else 824 + n * 8)) ∧ w = w' := by
  by_cases h1 : n < 0
  · go_enter Try.func53, Try.ntmps53
    go_wp2
    go_ret
    simp [h1]
  · by_cases h2 : 32 ≤ n
    · go_enter Try.func53, Try.ntmps53
      go_wp2
      go_ret
      simp [h2]
    · have h3 : 0 ≤ n := by omega
      have h4 : n < 32 := by omega
      go_enter Try.func53, Try.ntmps53
      go_wp2
      go_ret
      simp [h1, h2]

theorem HoldsU.below {w w' : World} {v : Value} {xs : List Int} (h : HoldsU w v xs) (hb : Below w.heap.size w w') : HoldsU w' v xs := by
  obtain ⟨ao, c, rfl, h1, h2, h3, h4⟩ := h
  exact ⟨ao, c, rfl, h1, h2, h3, fun ad ha j u hu => by
    have := h4 ad ha j u hu
    rw [hb.cell (World.block_lt_of_cell? w _ this)]
    exact this⟩

/-- So many noughts, behind a name. -/
def zeroRow (n : Nat) : List Value := List.replicate n (Value.int .u64 0)
theorem zeroRow_length (n : Nat) : (zeroRow n).length = n := List.length_replicate
theorem zeroRow_get (n i : Nat) (hi : i < n) : (zeroRow n)[i]? = some (.int .u64 0) := by
  unfold zeroRow
  rw [List.getElem?_replicate, if_pos hi]

/-- The row that make and copy leave. -/
def newRow (n : Nat) (xs : List Int) : List Value := splice (zeroRow n) 0 ((u64s xs).take n)

theorem take_len (n : Nat) (xs : List Int) : ((u64s xs).take n).length = min n xs.length := by simp [u64s]

theorem newRow_length (n : Nat) (xs : List Int) : (newRow n xs).length = n := by
  unfold newRow
  rw [length_splice]
  · exact zeroRow_length n
  · rw [take_len, zeroRow_length]; omega

theorem newRow_get (n : Nat) (xs : List Int) (i : Nat) (hi : i < n) : (newRow n xs)[i]? = some (.int .u64 (xs.getD i 0)) := by
  unfold newRow splice
  simp only [List.take_zero, List.nil_append, Nat.zero_add]
  by_cases h : i < xs.length
  · rw [List.getElem?_append_left (by rw [take_len]; omega), List.getElem?_take, if_pos hi]
    simp [u64s, h]
  · rw [List.getElem?_append_right (by rw [take_len]; omega), List.getElem?_drop, take_len]
    rw [zeroRow_get _ _ (by omega)]
    simp [h]

/-- What make leaves, as a block. -/
theorem made_block {w1 : World} {base g n : Nat} {e : TypeId} (h : w1.ownsRow base e 1 (.slice (some ⟨g, 0, none⟩) n n) n (madeCells (Value.int .u64 0).cells (n * 1)).toList) :
    w1.heap[g]? = some (.cells (zeroRow n).toArray e (0, 0)) := by
  rcases h.2 with ⟨hv, _⟩ | ⟨g', cap', cur, hv, _, hg, _, _, hsz, htk⟩
  · simp at hv
  · simp only [Value.slice.injEq, Option.some.injEq, Addr.mk.injEq, and_true, true_and] at hv
    obtain ⟨rfl, rfl⟩ := hv
    rw [hg]
    have e1 : cur.toList = (madeCells (Value.int .u64 0).cells (n * 1)).toList := by
      rw [← htk, List.take_of_length_le (by simp [hsz])]
    have e2 : (madeCells (Value.int .u64 0).cells (n * 1)).toList = zeroRow n := by
      rw [Nat.mul_one]
      exact toList_madeCells_one _ _
    rw [e2] at e1
    rw [← e1]

/-- Words, cut or filled up with noughts. -/
def pad (n : Nat) (xs : List Int) : List Int := (List.range n).map fun i => xs.getD i 0
theorem pad_length (n : Nat) (xs : List Int) : (pad n xs).length = n := by simp [pad]
theorem pad_get (n : Nat) (xs : List Int) (i : Nat) (hi : i < n) : (pad n xs)[i]? = some (xs.getD i 0) := by
  unfold pad
  rw [List.getElem?_map, List.getElem?_range hi]
  rfl

theorem newRow_eq (n : Nat) (xs : List Int) : newRow n xs = u64s (pad n xs) := by
  apply List.ext_getElem?
  intro i
  by_cases hi : i < n
  · rw [newRow_get n xs i hi]
    unfold u64s
    rw [List.getElem?_map, pad_get n xs i hi]
    rfl
  · rw [List.getElem?_eq_none (by rw [newRow_length]; omega), List.getElem?_eq_none (by unfold u64s; rw [List.length_map, pad_length]; omega)]

theorem words_pad {w : World} {g c : Nat} {xs : List Int} {cs : Array Value} (hg : w.heap[g]? = some (.cells cs 37 (0, 0))) (hs : cs.size = c) (h1 : 3128 ≤ c) (h2 : c ≤ maxLen) (hc : cs.toList.take 3128 = u64s (pad 3128 xs)) :
    Words w g c (Sh.new xs).beneath := by
  refine ⟨cs, hg, hs, h1, h2, fun i hi => ?_⟩
  have : (cs.toList.take 3128)[i]? = some (.int .u64 ((Sh.new xs).beneath i)) := by
    rw [hc]
    unfold u64s
    rw [List.getElem?_map, pad_get _ _ i hi]
    simp only [Sh.new, if_pos hi]
    rfl
  rw [List.getElem?_take, if_pos hi] at this
  simpa using this

theorem sheet_made {w w2 w3 : World} {xs : List Int} {v' : Value} {B : Nat} (hB : w.heap.size ≤ B) (hh : w2.heap[B]? = some (.cells (newRow 3128 xs).toArray 37 (0, 0))) (hb2 : Below w.heap.size w w2) (hb3 : Below w2.heap.size w2 w3)
    (ho : w3.ownsRow w2.heap.size 37 1 v' (pad 3128 xs).length (u64s (pad 3128 xs))) (hwf : ∀ z ∈ xs, 0 ≤ z ∧ z < 18446744073709551616) :
    SheetAt (w3.alloc (.cells #[.slice (some ⟨B, 0, none⟩) 3128 3128, v', .slice none 0 0] 103)) w3.heap.size (grow nob w (w3.alloc (.cells #[.slice (some ⟨B, 0, none⟩) 3128 3128, v', .slice none 0 0] 103))) (Sh.new xs) := by
  rw [pad_length] at ho
  have hlB := lt_of_block hh
  have hs2 := hb2.size
  have hs3 := hb3.size
  rcases ho.2 with ⟨_, h0⟩ | ⟨g, cap, cur, rfl, hg, hgc, hn, hm, hsz, htk⟩
  · omega
  have hlg := lt_of_block hgc
  have ha : Mod nob w3 (w3.alloc (.cells #[.slice (some ⟨B, 0, none⟩) 3128 3128, .slice (some ⟨g, 0, none⟩) 3128 cap, .slice none 0 0] 103)) := (Mod.refl _ _).alloc _
  have hB3 : w3.heap[B]? = some (.cells (newRow 3128 xs).toArray 37 (0, 0)) := by rw [hb3.block B hlB]; exact hh
  rw [newRow_eq] at hB3
  refine ⟨B, g, 3128, cap, .slice none 0 0, heap_alloc_new _ _, ?_, ?_, World.ownsRow_nil _ _ _ _, Sh.Ok.new hwf, by omega, by omega, by omega, ?_, ?_, ?_, ?_, ?_, ?_⟩
  · exact (words_pad hB3 (by simp [u64s, pad_length]) (by omega) (by unfold maxLen; omega) (by rw [List.take_of_length_le (by simp [u64s, pad_length])])).mod ha (fun h => h)
  · exact (words_pad hgc (by simpa using hsz) hn hm (by simpa using htk)).mod ha (fun h => h)
  · intro k hk; simp [Value.ownBlock] at hk
  · exact .inr ⟨by omega, by simp⟩
  · exact .inr ⟨hB, by simp; omega⟩
  · exact .inr ⟨by omega, by simp; omega⟩
  · intro k hk; simp [Value.ownBlock] at hk
  · intro b hb
    rcases hb with hb | hb
    · exact hb.elim
    · exact hb.2

set_option maxRecDepth 20000 in
theorem tx_new {w : World} {v : Value} {xs : List Int} (hv : HoldsU w v xs) (hwf : ∀ z ∈ xs, 0 ≤ z ∧ z < 18446744073709551616) :
    Calls Try.prog 30 #[v] w fun e w' => ∃ p, e = .returned (.pointer (some ⟨p, 0, none⟩)) ∧ SheetAt w' p (grow nob w w') (Sh.new xs) ∧ Below w.heap.size w w' := by
  obtain ⟨i0, hi0, hz0, hz1, hz2⟩ := info_parts Try.infoU64
  have HV := Lib.hid hv
  have HWF := Lib.hid hwf
  clear hwf
  obtain ⟨ao, c, rfl, hao, hlc, hcm, hcells⟩ := hv
  have HAO := Lib.hid hao
  clear hcells hao
  unfold maxLen at hcm
  go_enter Try.func30, Try.ntmps30
  go_wp2_with (at_make; refine wpList_make_full _ rfl _ _ 75 rfl w.heap.size 37 i0 (.int .u64 0) 1 Try.underlying75 hi0 hz0 hz1 .i64 .i64 3128 3128 3128 rfl rfl rfl rfl (by rw [hz2]; omega) (by unfold maxLen; omega) (Nat.le_refl _) ?_)
  intro w1 hown1 hgr1
  have hb1 : Below w.heap.size w w1 := (Below.refl _ _).grown hgr1 (Nat.le_refl _) (by intro k hk; cases hk)
  have hh := made_block hown1
  have hv1 := HV.out.below hb1
  have hs1 := lt_of_block hh
  have HH := Lib.hid hh
  have HV1 := Lib.hid hv1
  have HB1 := Lib.hid hb1
  clear hown1 hgr1 hh hv1 hb1
  go_wp2_with (with_reducible refine wpList_copy_splice (o := ⟨some 7, _, _, _, _, _⟩) rfl _ _ 75 75 rfl 37 Try.underlying75 (by kernel_rfl) _ _ _ _ _ _ rfl rfl w.heap.size 0 (zeroRow 3128) 37 HH.out ((u64s xs).take 3128) ?_ ?_ ?_ ?_ w.heap.size w HB1.out (Nat.le_refl _) ?_)
  · rw [take_len]; rw [Nat.min_comm]
  · intro hpos
    obtain ⟨ao', c', e, _, _, _, hc⟩ := HV1.out
    simp only [Value.slice.injEq] at e
    obtain ⟨rfl, _, rfl⟩ := e
    have hx : 0 < xs.length := by
      rw [Nat.lt_min] at hpos
      simpa [u64s] using hpos.2
    cases ao with
    | none => have := HAO.out rfl; omega
    | some ad =>
      refine ⟨ad, rfl, fun j v hj => hc ad rfl j v ?_⟩
      rw [List.getElem?_take] at hj
      split at hj
      · exact hj
      · cases hj
  · rw [take_len, zeroRow_length]; omega
  · intro u hu
    exact ints_oneCell _ _ u (List.mem_of_mem_take hu)
  · intro w2 hh2 hb2
    have hs2 := lt_of_block hh2.out
    have hv2 : HoldsU w2 (.slice (some ⟨w.heap.size, 0, none⟩) 3128 3128) (pad 3128 xs) := by
      refine ⟨some ⟨w.heap.size, 0, none⟩, 3128, by rw [pad_length], (by intro h; cases h), (by rw [pad_length]; omega), (by unfold maxLen; omega), ?_⟩
      intro ad ha j u hu
      simp at ha
      subst ha
      have hadd : (⟨w.heap.size, 0, none⟩ : Addr).add j = ⟨w.heap.size, j, none⟩ := by unfold Addr.add; split <;> simp_all
      rw [hadd, cell_of_row _ _ _ _ _ _ hh2.out]
      have e : splice (zeroRow 3128) 0 ((u64s xs).take 3128) = u64s (pad 3128 xs) := newRow_eq 3128 xs
      rw [e]
      simpa using hu
    have HV2 := Lib.hid hv2
    have HB2 := Lib.hid hb2
    clear hv2 hb2 hlc hcm
    go_wp2_with (go_at_call 64; refine (clone_u64 HV2.out (by rw [pad_length]; omega)).mono ?_; rintro e w3 ⟨v', rfl, ho3, hb3⟩; obtain ⟨g', cap', rfl, _⟩ := own_some ho3 (by rw [pad_length]; omega); have HO3 := Lib.hid ho3; have HB3 := Lib.hid hb3; clear ho3 hb3)
    go_ret
    refine ⟨w3.heap.size, rfl, sheet_made (Nat.le_refl _) hh2.out HB2.out HB3.out HO3.out HWF.out, ?_⟩
    have s2 := HB2.out.size
    exact (HB2.out.trans (HB3.out.mono s2)).alloc (by have := HB3.out.size; omega) _
end Go.Proofs.Ytlopdbhjdijlmaa
