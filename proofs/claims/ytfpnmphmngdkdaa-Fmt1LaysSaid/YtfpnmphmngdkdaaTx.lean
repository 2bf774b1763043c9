/-
  What the functions of package tx answer: contracts, over a sheet that is known by its words. No condition but the bounds that are typed.
-/
import Derived.Test.YtfpnmphmngdkdaaLib
import Derived.Test.YtfpnmphmngdkdaaTxM
import Derived.Laws.CopyOwn
namespace Go.Proofs.Ytfpnmphmngdkdaa
open Go.ChangeShapes Go.WideShapes Go.ChangeAt Go.RowKit
set_option linter.unusedSimpArgs false
set_option linter.unusedVariables false

theorem Try.infoU64 : (Try.prog.info? 41).map (fun i => (i.zero, i.size, i.bytes)) = some (some (.int .u64 0), 1, 8) := by kernel_rfl
theorem Try.infoPair : (Try.prog.info? 50).map (fun i => (i.zero, i.size, i.bytes)) = some (some (.agg #[.int .i64 0, .int .u64 0]), 2, 16) := by kernel_rfl

def pairCells (l : List (Nat × Int)) : List Value := l.flatMap fun x => [.int .i64 x.1, .int .u64 x.2]

theorem pairCells_append (a b : List (Nat × Int)) : pairCells (a ++ b) = pairCells a ++ pairCells b := by simp [pairCells]
theorem pairCells_length (l : List (Nat × Int)) : (pairCells l).length = l.length * 2 := by
  induction l with
  | nil => rfl
  | cons x l ih =>
    have : pairCells (x :: l) = [.int .i64 x.1, .int .u64 x.2] ++ pairCells l := rfl
    rw [this, List.length_append, ih]
    simp; omega

/-- A block that holds 3128 words at least. -/
def Words (w : World) (g c : Nat) (f : Nat → Int) : Prop :=
  ∃ cs : Array Value, w.heap[g]? = some (.cells cs 41 (0, 0)) ∧ cs.size = c ∧ 3128 ≤ c ∧ c ≤ maxLen ∧ ∀ i, i < 3128 → cs[i]? = some (.int .u64 (f i))

theorem Words.cell {w : World} {g c : Nat} {f : Nat → Int} (h : Words w g c f) (i : Nat) (hi : i < 3128) : w.cell? ⟨g, i, none⟩ = some (.int .u64 (f i)) := by
  obtain ⟨cs, hg, _, _, _, hc⟩ := h
  rw [cell_of_row _ _ _ _ _ _ hg]
  exact hc i hi

theorem Words.frozen {w : World} {g c : Nat} {f : Nat → Int} (h : Words w g c f) (i : Nat) : w.frozen? ⟨g, i, none⟩ = false := by
  obtain ⟨cs, hg, _⟩ := h
  exact frozen_of_row w g i cs _ hg

theorem Words.mod {w w' : World} {g c : Nat} {f : Nat → Int} (h : Words w g c f) {D : Nat → Prop} (hm : Mod D w w') (hg : ¬ D g) : Words w' g c f := by
  obtain ⟨cs, hh, r⟩ := h
  exact ⟨cs, hm.heap hh hg, r⟩

theorem Words.lt {w : World} {g c : Nat} {f : Nat → Int} (h : Words w g c f) : g < w.heap.size := by
  obtain ⟨cs, hh, r⟩ := h
  exact lt_of_block hh

theorem Words.set {w : World} {g c : Nat} {f : Nat → Int} (h : Words w g c f) (i : Nat) (v : Int) : Words (w.setCell ⟨g, i, none⟩ (.int .u64 v)) g c (upd f i v) := by
  obtain ⟨cs, hh, h1, h2, h3, h4⟩ := h
  refine ⟨_, heap_setCell_same w g i cs _ _ hh, by simpa using h1, h2, h3, fun k hk => ?_⟩
  simp only [upd]
  by_cases e : k = i
  · subst e
    rw [if_pos rfl, Array.getElem?_setIfInBounds]
    simp only [if_true]
    rw [if_pos (by omega)]
  · rw [if_neg e, Array.getElem?_setIfInBounds]
    rw [if_neg (fun h => e h.symm)]
    exact h4 k hk

/-- The sheet's blocks. -/
structure SheetR (w : World) (p : Nat) (D : Nat → Prop) (S : Sh) (pb nb cb cn : Nat) (wv : Value) : Prop where
  head : w.heap[p]? = some (.cells #[.slice (some ⟨pb, 0, none⟩) 3128 cb, .slice (some ⟨nb, 0, none⟩) 3128 cn, wv] 124 (0, 0))
  beneath : Words w pb cb S.beneath
  now : Words w nb cn S.now
  was : w.ownsRow 0 50 2 wv S.was.length (pairCells S.was)
  ok : S.Ok
  pbp : pb ≠ p
  nbp : nb ≠ p
  npb : nb ≠ pb
  wvp : ∀ g, wv.ownBlock = some g → g ≠ p ∧ g ≠ pb ∧ g ≠ nb
  dp : D p
  dpb : D pb
  dnb : D nb
  dw : ∀ g, wv.ownBlock = some g → D g
  lt : ∀ b, D b → b < w.heap.size

def SheetAt (w : World) (p : Nat) (D : Nat → Prop) (S : Sh) : Prop := ∃ pb nb cb cn wv, SheetR w p D S pb nb cb cn wv

theorem SheetAt.ok {w : World} {p : Nat} {D : Nat → Prop} {S : Sh} (h : SheetAt w p D S) : S.Ok := by
  obtain ⟨_, _, _, _, _, h⟩ := h
  exact h.ok

theorem SheetAt.lt {w : World} {p : Nat} {D : Nat → Prop} {S : Sh} (h : SheetAt w p D S) : ∀ b, D b → b < w.heap.size := by
  obtain ⟨_, _, _, _, _, h⟩ := h
  exact h.lt

/-- A sheet stays where its blocks are not written. -/
theorem SheetAt.mod {w w' : World} {p : Nat} {D D0 : Nat → Prop} {S : Sh} (h : SheetAt w p D S) (hm : Mod D0 w w') (hd : ∀ b, D b → ¬ D0 b) : SheetAt w' p D S := by
  obtain ⟨pb, nb, cb, cn, wv, h⟩ := h
  exact ⟨pb, nb, cb, cn, wv, hm.heap h.head (hd _ h.dp), h.beneath.mod hm (hd _ h.dpb), h.now.mod hm (hd _ h.dnb), hm.own h.was (fun g hg => hd _ (h.dw g hg)), h.ok, h.pbp, h.nbp, h.npb, h.wvp, h.dp, h.dpb, h.dnb, h.dw,
    fun b hb => Nat.lt_of_lt_of_le (h.lt b hb) hm.size⟩

theorem SheetAt.mono {w : World} {p : Nat} {D D' : Nat → Prop} {S : Sh} (h : SheetAt w p D S) (hd : ∀ b, D b → D' b) (hl : ∀ b, D' b → b < w.heap.size) : SheetAt w p D' S := by
  obtain ⟨pb, nb, cb, cn, wv, h⟩ := h
  exact ⟨pb, nb, cb, cn, wv, h.head, h.beneath, h.now, h.was, h.ok, h.pbp, h.nbp, h.npb, h.wvp, hd _ h.dp, hd _ h.dpb, hd _ h.dnb, fun g hg => hd _ (h.dw g hg), hl⟩

theorem SheetAt.drew {w : World} {p : Nat} {D : Nat → Prop} {S : Sh} (h : SheetAt w p D S) : SheetAt w.drew p D S :=
  h.mod (D0 := nob) ((Mod.refl nob w).drew) (fun _ _ h => h)

theorem in_any (i : Int) (w : World) : Calls Try.prog 88 #[.int .i64 i] w fun e w' => e = .returned (.bool (decide (0 ≤ i ∧ i < 3128))) ∧ w = w' := by
  by_cases h : 0 ≤ i
  · go_enter Try.func88, Try.ntmps88
    go_wp2
    go_ret
    simp [h]
  · go_enter Try.func88, Try.ntmps88
    go_wp2
    go_ret
    simp
    omega

theorem sheet_get {w : World} {p : Nat} {D : Nat → Prop} {S : Sh} (h : SheetAt w p D S) (i : Int) :
    Calls Try.prog 97 #[.pointer (some ⟨p, 0, none⟩), .int .i64 i] w fun e w' => e = .returned (.int .u64 (S.get i)) ∧ w = w' := by
  obtain ⟨pb, nb, cb, cn, wv, h⟩ := h
  by_cases hi : 0 ≤ i ∧ i < 3128
  · obtain ⟨n, rfl⟩ := Int.eq_ofNat_of_zero_le hi.1
    have hn : n < 3128 := by omega
    have hc1 : w.cell? ⟨p, 1, none⟩ = some (.slice (some ⟨nb, 0, none⟩) 3128 cn) := by rw [cell_of_row _ _ _ _ _ _ h.head]; rfl
    have hc2 := h.now.cell n hn
    have hb : decide (0 ≤ (n : Int) ∧ (n : Int) < 3128) = true := by simpa using hi
    have hfin : S.get n = S.now n := by unfold Sh.get; rw [if_pos hi]; rfl
    generalize S.get n = x at hfin ⊢
    have Hfin := Lib.hid hfin
    have Hb := Lib.hid hb
    clear hfin h hb hi
    go_enter Try.func97, Try.ntmps97
    go_wp2_with (go_at_call 88; refine (in_any _ _).mono ?_; rintro e w' ⟨rfl, rfl⟩; rw [Hb.out])
    go_ret
    rw [Hfin.out]
    exact ⟨rfl, rfl⟩
  · have hb : decide (0 ≤ i ∧ i < 3128) = false := by simpa using hi
    have Hfin : Hid (S.get i = 0) := by simp only [Hid, Sh.get]; rw [if_neg hi]
    have Hb := Lib.hid hb
    clear h hb hi
    go_enter Try.func97, Try.ntmps97
    go_wp2_with (go_at_call 88; refine (in_any _ _).mono ?_; rintro e w' ⟨rfl, rfl⟩; rw [Hb.out])
    go_ret
    rw [Hfin.out]
    exact ⟨rfl, rfl⟩

theorem sheet_mark {w : World} {p : Nat} {D : Nat → Prop} {S : Sh} (h : SheetAt w p D S) :
    Calls Try.prog 33 #[.pointer (some ⟨p, 0, none⟩)] w fun e w' => e = .returned (.int .i64 S.was.length) ∧ w = w' := by
  obtain ⟨pb, nb, cb, cn, wv, h⟩ := h
  obtain ⟨ao, cap, hwv, _⟩ := own_shape h.was
  have hc2 : w.cell? ⟨p, 2, none⟩ = some (.slice ao S.was.length cap) := by rw [cell_of_row _ _ _ _ _ _ h.head, ← hwv]; rfl
  clear h hwv
  go_enter Try.func33, Try.ntmps33
  go_wp2
  go_ret
  exact ⟨rfl, rfl⟩

theorem put_keeps {w w0 w1 : World} {row : Option Nat} {a : Addr} {v : Value} (hg : w0.grownBy w1 row) (hl : a.block < w.heap.size) (hr : some a.block ≠ row) (hc : w.cell? a = some v) (hf : w.frozen? a = false)
    (h0 : w0.heap[a.block]? = w.heap[a.block]? := by rfl) (hs : w.heap.size ≤ w0.heap.size := by simp) : w1.cell? a = some v ∧ w1.frozen? a = false := by
  have e : w1.heap[a.block]? = w.heap[a.block]? := (hg.block a.block (by omega) hr).trans h0
  exact ⟨by rw [World.cell?_of_block e]; exact hc, by rw [World.frozen?_of_block e]; exact hf⟩

theorem head_set {w : World} {p : Nat} {a b c d : Value} {t : TypeId} (h : w.heap[p]? = some (.cells #[a, b, c] t (0, 0))) : (w.setCell ⟨p, 2, none⟩ d).heap[p]? = some (.cells #[a, b, d] t (0, 0)) := by
  rw [heap_setCell_same w p 2 _ t d h]
  rfl

/-- Behind the append and the store into the field. -/
theorem put_mid {w w1 : World} {p : Nat} {D : Nat → Prop} {S : Sh} {pb nb cb cn : Nat} {wv : Value} (h : SheetR w p D S pb nb cb cn wv) {o : Obj} (hgrow : (w.alloc o).drew.grownBy w1 wv.ownBlock) {gg cap : Nat} {x : Nat × Int}
    (hx : x.1 < 3128 ∧ 0 ≤ x.2 ∧ x.2 < 18446744073709551616)
    (hown : w1.ownsRow 0 50 2 (.slice (some ⟨gg, 0, none⟩) (S.was.length + 1) cap) (S.was.length + 1) (pairCells S.was ++ [.int .i64 x.1, .int .u64 x.2])) (hat : wv.ownBlock = some gg ∨ gg = w.heap.size + 1) (hlt : gg < w1.heap.size) :
    SheetR (w1.setCell ⟨p, 2, none⟩ (.slice (some ⟨gg, 0, none⟩) (S.was.length + 1) cap)) p (grow D w (w1.setCell ⟨p, 2, none⟩ (.slice (some ⟨gg, 0, none⟩) (S.was.length + 1) cap))) { S with was := S.was ++ [x] } pb nb cb cn (.slice (some ⟨gg, 0, none⟩) (S.was.length + 1) cap) ∧
      Mod D w (w1.setCell ⟨p, 2, none⟩ (.slice (some ⟨gg, 0, none⟩) (S.was.length + 1) cap)) := by
  have hm : Mod (fun b => wv.ownBlock = some b) w w1 := by
    have h1 := mod_of_grown hgrow
    exact (((Mod.refl _ w).alloc o).drew).trans (h1.mono (fun b _ hb => .inl hb))
  have hlp := lt_of_block h.head
  have hlpb := h.beneath.lt
  have hlnb := h.now.lt
  have hgp : gg ≠ p ∧ gg ≠ pb ∧ gg ≠ nb := by
    rcases hat with e | e
    · exact h.wvp gg e
    · omega
  have hsz := hm.size
  have hm2 : Mod (fun b => b = p) w1 (w1.setCell ⟨p, 2, none⟩ (.slice (some ⟨gg, 0, none⟩) (S.was.length + 1) cap)) := (Mod.refl (fun b => b = p) w1).setCell (.inl rfl) _
  have hs2 : (w1.setCell ⟨p, 2, none⟩ (.slice (some ⟨gg, 0, none⟩) (S.was.length + 1) cap)).heap.size = w1.heap.size := by simp [World.setCell]
  have hmod : Mod D w (w1.setCell ⟨p, 2, none⟩ (.slice (some ⟨gg, 0, none⟩) (S.was.length + 1) cap)) :=
    (hm.mono (fun b _ hb => h.dw b hb)).trans (hm2.mono (fun b _ hb => by subst hb; exact .inl h.dp))
  refine ⟨⟨head_set (hm.heap h.head (fun e => (h.wvp p e).1 rfl)), (h.beneath.mod hm (fun e => (h.wvp pb e).2.1 rfl)).mod hm2 h.pbp, (h.now.mod hm (fun e => (h.wvp nb e).2.2 rfl)).mod hm2 h.nbp, ?_, ⟨h.ok.beneath, h.ok.now, ?_⟩,
    h.pbp, h.nbp, h.npb, ?_, .inl h.dp, .inl h.dpb, .inl h.dnb, ?_, ?_⟩, hmod⟩
  · have := hm2.own hown (fun g hg => by simp [Value.ownBlock] at hg; subst hg; exact hgp.1)
    simpa [pairCells] using this
  · intro y hy
    rcases List.mem_append.1 hy with hy | hy
    · exact h.ok.was y hy
    · simp at hy
      subst hy
      exact hx
  · intro g hg
    simp [Value.ownBlock] at hg
    subst hg
    exact hgp
  · intro g hg
    simp [Value.ownBlock] at hg
    subst hg
    rcases hat with e | e
    · exact .inl (h.dw _ e)
    · exact .inr ⟨by omega, by omega⟩
  · intro b hb
    rcases hb with hb | hb
    · have := h.lt b hb; omega
    · exact hb.2

/-- A word stored. -/
theorem SheetR.store {w : World} {p : Nat} {D : Nat → Prop} {S : Sh} {pb nb cb cn : Nat} {wv : Value} (h : SheetR w p D S pb nb cb cn wv) (n : Nat) (v : Int) (h0 : 0 ≤ v) (h1 : v < 18446744073709551616) :
    SheetR (w.setCell ⟨nb, n, none⟩ (.int .u64 v)) p D { S with now := upd S.now n v } pb nb cb cn wv := by
  have hm : Mod (fun b => b = nb) w (w.setCell ⟨nb, n, none⟩ (.int .u64 v)) := (Mod.refl (fun b => b = nb) w).setCell (.inl rfl) _
  refine ⟨hm.heap h.head (fun e => h.nbp e.symm), h.beneath.mod hm (fun e => h.npb e.symm), h.now.set n v, hm.own h.was (fun g hg e => (h.wvp g hg).2.2 e), ⟨h.ok.beneath, fun k => ?_, h.ok.was⟩, h.pbp, h.nbp, h.npb, h.wvp, h.dp, h.dpb, h.dnb, h.dw, fun b hb => by simpa [World.setCell] using h.lt b hb⟩
  simp only [upd]
  split
  · exact ⟨h0, h1⟩
  · exact h.ok.now k

def PutMid (w : World) (p : Nat) (D : Nat → Prop) (S : Sh) (n pb nb cb cn : Nat) (wc : World) : Prop :=
  ∃ wv2, SheetR wc p (grow D w wc) { S with was := S.was ++ [(n, S.now n)] } pb nb cb cn wv2 ∧ Mod D w wc

set_option maxRecDepth 20000 in
set_option maxHeartbeats 800000 in
theorem sheet_put {w : World} {p : Nat} {D : Nat → Prop} {S : Sh} (h : SheetAt w p D S) (hlen : S.was.length < 1099511627776) (i v : Int) (h0 : 0 ≤ v) (h1 : v < 18446744073709551616) :
    Calls Try.prog 27 #[.pointer (some ⟨p, 0, none⟩), .int .i64 i, .int .u64 v] w fun e w' => e = .returned (.tuple #[]) ∧ SheetAt w' p (grow D w w') (S.put i v) ∧ Mod D w w' := by
  have hfull := Lib.hid h
  obtain ⟨i0, hi0, hz0, hz1, hz2⟩ := info_parts Try.infoPair
  obtain ⟨pb, nb, cb, cn, wv, h⟩ := h
  by_cases hi : 0 ≤ i ∧ i < 3128
  · obtain ⟨n, rfl⟩ := Int.eq_ofNat_of_zero_le hi.1
    have hn : n < 3128 := by omega
    obtain ⟨ao, cap, hwv, _, _, hao⟩ := own_shape h.was
    have HW := Lib.hid h.was
    have hc1 : w.cell? ⟨p, 1, none⟩ = some (.slice (some ⟨nb, 0, none⟩) 3128 cn) := by rw [cell_of_row _ _ _ _ _ _ h.head]; rfl
    have hc2 : w.cell? ⟨p, 2, none⟩ = some wv := by rw [cell_of_row _ _ _ _ _ _ h.head]; rfl
    have hfz : w.frozen? ⟨p, 2, none⟩ = false := frozen_of_row _ _ _ _ _ h.head
    have hc3 := h.now.cell n hn
    have H := Lib.hid h
    have Hb : Hid (decide (0 ≤ (n : Int) ∧ (n : Int) < 3128) = true) := by simpa [Hid] using hi
    generalize hx : S.now n = x at hc3
    have HX := Lib.hid hx
    clear h hi hao hwv hx
    go_enter Try.func27, Try.ntmps27
    go_wp2_with (go_at_call 88; refine (in_any _ _).mono ?_; rintro e w' ⟨rfl, rfl⟩; rw [Hb.out])
    have ak : wv.ownBlock ≠ some p := fun e => (H.out.wvp p e).1 rfl
    have av : wv.ownBlock ≠ some nb := fun e => (H.out.wvp nb e).2.2 rfl
    have hlp : p < w.heap.size := lt_of_block H.out.head
    have hln : nb < w.heap.size := H.out.now.lt
    have hn0 : (0 : Int) ≤ (n : Int) := Int.natCast_nonneg _
    have hn1 : (n : Int) < 3128 := by omega
    go_upto_region 1 with (fail)
    go_cut [23] (fun _ wc => PutMid w p D S n pb nb cb cn wc)
    case first =>
      generalize hlenS : S.was.length = m at hlen HW
      go_region_law
        ((refine step_append_lies _ (by rfl) _ _ _ (by rfl) 0 50 i0 _ 2 16 Try.underlying23 hi0 hz0 hz1 hz2 rfl (by omega) wv m (pairCells S.was) (by rfl) ((HW.out.alloc _).drew) ⟨w.heap.size, 0, none⟩ 1 1 [.int .i64 n, .int .u64 x] (by rfl) (by rfl) (World.news_of_block (cs := #[.int .i64 n, .int .u64 x]) (t := 50) (fr := (0, 0)) (heap_alloc_new w _)) (by simp [Value.oneCell']) (by omega) (by unfold maxLen; omega) (by omega) (by simp) (w.heap.size + 1) (by simp) ?_; intro gg cap w1 hown1 hgrow hat hlt; have hs1 := (put_keeps hgrow hlp (Ne.symm ak) hc2 hfz (Below.heap_alloc _ _ _ hlp)); obtain ⟨hs2, hs3⟩ := hs1))
      all_goals
        go_wp2_with fail
        go_meet
        case rel =>
          subst hlenS
          have hXX := HX.out
          subst hXX
          have hok := H.out.ok.now n
          exact ⟨_, put_mid H.out hgrow (x := (n, S.now n)) ⟨hn, hok⟩ hown1 hat hlt⟩
    case rest =>
      obtain ⟨wv2, hr, hmod⟩ := hcut
      have hd1 : wc.cell? ⟨p, 1, none⟩ = some (.slice (some ⟨nb, 0, none⟩) 3128 cn) := by rw [cell_of_row _ _ _ _ _ _ hr.head]; rfl
      have hd2 := hr.now.cell n hn
      have hd3 := hr.now.frozen n
      have HR := Lib.hid hr
      clear hr
      go_wp2
      go_end0
      refine ⟨rfl, ⟨pb, nb, cb, cn, wv2, ?_⟩, hmod.setCell (.inl H.out.dnb) _⟩
      have e : S.put n v = { S with now := upd S.now n v, was := S.was ++ [(n, S.now n)] } := by
        unfold Sh.put
        rw [if_pos ⟨hn0, hn1⟩]
        rfl
      rw [e]
      have hst := HR.out.store n v h0 h1
      have hg : grow D w (wc.setCell ⟨nb, n, none⟩ (.int .u64 v)) = grow D w wc := by
        unfold grow
        simp [World.setCell]
      rw [hg]
      exact hst
  · have hb : decide (0 ≤ i ∧ i < 3128) = false := by simpa using hi
    have Hfin : Hid (S.put i v = S) := by simp only [Hid, Sh.put]; rw [if_neg hi]
    have Hb := Lib.hid hb
    clear h hb hi
    go_enter Try.func27, Try.ntmps27
    go_wp2_with (go_at_call 88; refine (in_any _ _).mono ?_; rintro e w' ⟨rfl, rfl⟩; rw [Hb.out])
    go_end0
    rw [Hfin.out]
    exact ⟨rfl, hfull.out.mono (fun b hb => .inl hb) (fun b hb => hfull.out.lt b (grow_refl.1 hb)), Mod.refl _ _⟩
end Go.Proofs.Ytfpnmphmngdkdaa
