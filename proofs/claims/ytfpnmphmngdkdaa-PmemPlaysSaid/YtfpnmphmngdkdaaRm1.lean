/-
  The document's memory (imagoref01), in memory: its blocks; how many words are dirty: a contract. No condition but the bounds that are typed.
-/
import Derived.Test.YtfpnmphmngdkdaaPmemPlaysM
import Derived.Test.YtfpnmphmngdkdaaPm
import Derived.StillTailTactics
namespace Go.Proofs.Ytfpnmphmngdkdaa
open Go.ChangeShapes Go.WideShapes Go.ChangeAt Go.RowKit
set_option linter.unusedSimpArgs false
set_option linter.unusedVariables false

theorem Try.infoBool : (Try.prog.info? 4).map (fun i => (i.zero, i.size, i.bytes)) = some (some (.bool false), 1, 1) := by kernel_rfl

/-- A slice of n bools in a block. -/
def FlR (w : World) (v : Value) (n : Nat) (f : Nat → Bool) : Prop :=
  ∃ g cap cs, v = .slice (some ⟨g, 0, none⟩) n cap ∧ w.heap[g]? = some (.cells cs 4 (0, 0)) ∧ n ≤ cap ∧ cap ≤ maxLen ∧ cs.size = cap ∧ ∀ i, i < n → cs[i]? = some (.bool (f i))

theorem FlR.mod {w w' : World} {v : Value} {n : Nat} {f : Nat → Bool} (h : FlR w v n f) {D : Nat → Prop} (hm : Mod D w w') (hd : ∀ g, v.ownBlock = some g → ¬ D g) : FlR w' v n f := by
  obtain ⟨g, cap, cs, rfl, h1, r⟩ := h
  exact ⟨g, cap, cs, rfl, hm.heap h1 (hd g rfl), r⟩

theorem FlR.set {w : World} {g n cap : Nat} {f : Nat → Bool} (h : FlR w (.slice (some ⟨g, 0, none⟩) n cap) n f) (i : Nat) (b : Bool) : FlR (w.setCell ⟨g, i, none⟩ (.bool b)) (.slice (some ⟨g, 0, none⟩) n cap) n (updB f i b) := by
  obtain ⟨g', cap', cs, hv, h1, h2, h3, h4, h5⟩ := h
  simp only [Value.slice.injEq, Option.some.injEq, Addr.mk.injEq, and_true, true_and] at hv
  obtain ⟨rfl, rfl⟩ := hv
  refine ⟨g, cap, _, rfl, heap_setCell_same w g i cs _ _ h1, h2, h3, by simpa using h4, fun k hk => ?_⟩
  simp only [updB]
  by_cases e : k = i
  · subst e
    rw [if_pos rfl, Array.getElem?_setIfInBounds]
    simp only [if_true]
    rw [if_pos (by omega)]
  · rw [if_neg e, Array.getElem?_setIfInBounds]
    rw [if_neg (fun h => e h.symm)]
    exact h5 k hk

theorem FlR.shape {w : World} {v : Value} {n : Nat} {f : Nat → Bool} (h : FlR w v n f) : ∃ g cap, v = .slice (some ⟨g, 0, none⟩) n cap ∧ n ≤ cap ∧ cap ≤ maxLen ∧ g < w.heap.size ∧ ∀ i, i < n → w.cell? ⟨g, i, none⟩ = some (.bool (f i)) ∧ w.frozen? ⟨g, i, none⟩ = false := by
  obtain ⟨g, cap, cs, rfl, h1, h2, h3, h4, h5⟩ := h
  exact ⟨g, cap, rfl, h2, h3, lt_of_block h1, fun i hi => ⟨by rw [cell_of_row _ _ _ _ _ _ h1]; exact h5 i hi, frozen_of_row _ _ _ _ _ h1⟩⟩

/-- What make leaves. -/
theorem FlR.made {w1 : World} {base g n : Nat} (h : w1.ownsRow base 4 1 (.slice (some ⟨g, 0, none⟩) n n) n (madeCells (Value.bool false).cells (n * 1)).toList) : FlR w1 (.slice (some ⟨g, 0, none⟩) n n) n (fun _ => false) := by
  have e2 : (madeCells (Value.bool false).cells (n * 1)).toList = List.replicate n (Value.bool false) := by
    rw [Nat.mul_one]
    exact toList_madeCells_one _ _
  rw [e2] at h
  rcases h.2 with ⟨hv, _⟩ | ⟨g', cap', cur, hv, h1, h2, h3, h4, h5, h6⟩
  · cases hv
  · cases hv
    refine ⟨g, n, cur, rfl, h2, h3, h4, by simpa using h5, fun i hi => ?_⟩
    have : (cur.toList.take (n * 1))[i]? = (List.replicate n (Value.bool false))[i]? := by rw [h6]
    rw [List.getElem?_take, if_pos (by omega), List.getElem?_replicate, if_pos hi] at this
    simpa using this

structure RmR (w : World) (q : Nat) (D : Nat → Prop) (R : Rm) (nv lv fv : Value) : Prop where
  head : w.heap[q]? = some (.cells #[nv, lv, fv, .int .i64 R.deeds, .int .i64 R.fuse] 83 (0, 0))
  now : NowR w nv R.n R.now
  last : NowR w lv R.n R.last
  fl : FlR w fv R.n R.fl
  ok : R.Ok
  hn : R.n ≤ 10000
  nq : ∀ g, nv.ownBlock = some g → g ≠ q
  lq : ∀ g, lv.ownBlock = some g → g ≠ q
  fq : ∀ g, fv.ownBlock = some g → g ≠ q
  nl : ∀ g, nv.ownBlock = some g → lv.ownBlock ≠ some g
  nf : ∀ g, nv.ownBlock = some g → fv.ownBlock ≠ some g
  lf : ∀ g, lv.ownBlock = some g → fv.ownBlock ≠ some g
  dq : D q
  dn : ∀ g, nv.ownBlock = some g → D g
  dl : ∀ g, lv.ownBlock = some g → D g
  df : ∀ g, fv.ownBlock = some g → D g
  lt : ∀ b, D b → b < w.heap.size

def RmAt (w : World) (q : Nat) (D : Nat → Prop) (R : Rm) : Prop := ∃ nv lv fv, RmR w q D R nv lv fv

theorem RmR.mod {w w' : World} {q : Nat} {D D0 : Nat → Prop} {R : Rm} {nv lv fv : Value} (h : RmR w q D R nv lv fv) (hm : Mod D0 w w') (hd : ∀ b, D b → ¬ D0 b) : RmR w' q D R nv lv fv :=
  ⟨hm.heap h.head (hd _ h.dq), h.now.mod hm (fun g hg => hd _ (h.dn g hg)), h.last.mod hm (fun g hg => hd _ (h.dl g hg)), h.fl.mod hm (fun g hg => hd _ (h.df g hg)), h.ok, h.hn, h.nq, h.lq, h.fq, h.nl, h.nf, h.lf, h.dq, h.dn, h.dl, h.df, fun b hb => Nat.lt_of_lt_of_le (h.lt b hb) hm.size⟩

theorem RmAt.mod {w w' : World} {q : Nat} {D D0 : Nat → Prop} {R : Rm} (h : RmAt w q D R) (hm : Mod D0 w w') (hd : ∀ b, D b → ¬ D0 b) : RmAt w' q D R := by
  obtain ⟨nv, lv, fv, h⟩ := h
  exact ⟨nv, lv, fv, h.mod hm hd⟩

theorem RmAt.mono {w : World} {q : Nat} {D D' : Nat → Prop} {R : Rm} (h : RmAt w q D R) (hd : ∀ b, D b → D' b) (hl : ∀ b, D' b → b < w.heap.size) : RmAt w q D' R := by
  obtain ⟨nv, lv, fv, h⟩ := h
  exact ⟨nv, lv, fv, h.head, h.now, h.last, h.fl, h.ok, h.hn, h.nq, h.lq, h.fq, h.nl, h.nf, h.lf, hd _ h.dq, fun g hg => hd _ (h.dn g hg), fun g hg => hd _ (h.dl g hg), fun g hg => hd _ (h.df g hg), hl⟩

theorem RmAt.lt {w : World} {q : Nat} {D : Nat → Prop} {R : Rm} (h : RmAt w q D R) : ∀ b, D b → b < w.heap.size := by
  obtain ⟨_, _, _, h⟩ := h
  exact h.lt

theorem RmR.cells {w : World} {q : Nat} {D : Nat → Prop} {R : Rm} {nv lv fv : Value} (h : RmR w q D R nv lv fv) :
    w.cell? ⟨q, 0, none⟩ = some nv ∧ w.cell? ⟨q, 1, none⟩ = some lv ∧ w.cell? ⟨q, 2, none⟩ = some fv ∧ w.cell? ⟨q, 3, none⟩ = some (.int .i64 R.deeds) ∧ w.cell? ⟨q, 4, none⟩ = some (.int .i64 R.fuse) :=
  ⟨by rw [cell_of_row _ _ _ _ _ _ h.head]; rfl, by rw [cell_of_row _ _ _ _ _ _ h.head]; rfl, by rw [cell_of_row _ _ _ _ _ _ h.head]; rfl, by rw [cell_of_row _ _ _ _ _ _ h.head]; rfl, by rw [cell_of_row _ _ _ _ _ _ h.head]; rfl⟩

theorem RmR.frozen {w : World} {q : Nat} {D : Nat → Prop} {R : Rm} {nv lv fv : Value} (h : RmR w q D R nv lv fv) (j : Nat) : w.frozen? ⟨q, j, none⟩ = false := frozen_of_row _ _ _ _ _ h.head

theorem Rm.Ok.setNow {R : Rm} (h : R.Ok) (i : Nat) {x : Int} (h0 : 0 ≤ x) (h1 : x < 18446744073709551616) : ({ R with now := upd R.now i x } : Rm).Ok :=
  ⟨fun k => by simp only [upd]; split; exact ⟨h0, h1⟩; exact h.now k, h.last, h.fuse⟩
theorem Rm.Ok.setLast {R : Rm} (h : R.Ok) (i : Nat) {x : Int} (h0 : 0 ≤ x) (h1 : x < 18446744073709551616) : ({ R with last := upd R.last i x } : Rm).Ok :=
  ⟨h.now, fun k => by simp only [upd]; split; exact ⟨h0, h1⟩; exact h.last k, h.fuse⟩

/-- A word now written. -/
theorem RmR.setNow {w : World} {q : Nat} {D : Nat → Prop} {R : Rm} {g cap : Nat} {lv fv : Value} (h : RmR w q D R (.slice (some ⟨g, 0, none⟩) R.n cap) lv fv) (i : Nat) (x : Int) (h0 : 0 ≤ x) (h1 : x < 18446744073709551616) :
    RmR (w.setCell ⟨g, i, none⟩ (.int .u64 x)) q D { R with now := upd R.now i x } (.slice (some ⟨g, 0, none⟩) R.n cap) lv fv := by
  have hm : Mod (fun b => b = g) w (w.setCell ⟨g, i, none⟩ (.int .u64 x)) := (Mod.refl (fun b => b = g) w).setCell (a := ⟨g, i, none⟩) (.inl rfl) _
  exact ⟨hm.heap h.head (fun e => h.nq g rfl e.symm), h.now.set i x, h.last.mod hm (fun k hk e => h.nl g rfl (by rw [hk, e])), h.fl.mod hm (fun k hk e => h.nf g rfl (by rw [hk, e])), h.ok.setNow i h0 h1, h.hn, h.nq, h.lq, h.fq, h.nl, h.nf, h.lf, h.dq, h.dn, h.dl, h.df, fun b hb => Nat.lt_of_lt_of_le (h.lt b hb) hm.size⟩

/-- A word that lasts written. -/
theorem RmR.setLast {w : World} {q : Nat} {D : Nat → Prop} {R : Rm} {g cap : Nat} {nv fv : Value} (h : RmR w q D R nv (.slice (some ⟨g, 0, none⟩) R.n cap) fv) (i : Nat) (x : Int) (h0 : 0 ≤ x) (h1 : x < 18446744073709551616) :
    RmR (w.setCell ⟨g, i, none⟩ (.int .u64 x)) q D { R with last := upd R.last i x } nv (.slice (some ⟨g, 0, none⟩) R.n cap) fv := by
  have hm : Mod (fun b => b = g) w (w.setCell ⟨g, i, none⟩ (.int .u64 x)) := (Mod.refl (fun b => b = g) w).setCell (a := ⟨g, i, none⟩) (.inl rfl) _
  exact ⟨hm.heap h.head (fun e => h.lq g rfl e.symm), h.now.mod hm (fun k hk e => h.nl k hk (by rw [e]; rfl)), h.last.set i x, h.fl.mod hm (fun k hk e => h.lf g rfl (by rw [hk, e])), h.ok.setLast i h0 h1, h.hn, h.nq, h.lq, h.fq, h.nl, h.nf, h.lf, h.dq, h.dn, h.dl, h.df, fun b hb => Nat.lt_of_lt_of_le (h.lt b hb) hm.size⟩

/-- A mark written. -/
theorem RmR.setFl {w : World} {q : Nat} {D : Nat → Prop} {R : Rm} {g cap : Nat} {nv lv : Value} (h : RmR w q D R nv lv (.slice (some ⟨g, 0, none⟩) R.n cap)) (i : Nat) (b : Bool) :
    RmR (w.setCell ⟨g, i, none⟩ (.bool b)) q D { R with fl := updB R.fl i b } nv lv (.slice (some ⟨g, 0, none⟩) R.n cap) := by
  have hm : Mod (fun b => b = g) w (w.setCell ⟨g, i, none⟩ (.bool b)) := (Mod.refl (fun b => b = g) w).setCell (a := ⟨g, i, none⟩) (.inl rfl) _
  exact ⟨hm.heap h.head (fun e => h.fq g rfl e.symm), h.now.mod hm (fun k hk e => h.nf k hk (by rw [e]; rfl)), h.last.mod hm (fun k hk e => h.lf k hk (by rw [e]; rfl)), h.fl.set i b, ⟨h.ok.now, h.ok.last, h.ok.fuse⟩, h.hn, h.nq, h.lq, h.fq, h.nl, h.nf, h.lf, h.dq, h.dn, h.dl, h.df, fun b hb => Nat.lt_of_lt_of_le (h.lt b hb) hm.size⟩

/-- The counters written. -/
theorem RmR.setHead {w w' : World} {q : Nat} {D : Nat → Prop} {R : Rm} {nv lv fv : Value} (h : RmR w q D R nv lv fv) (hm : Mod (fun b => b = q) w w') {R' : Rm}
    (hh : w'.heap[q]? = some (.cells #[nv, lv, fv, .int .i64 R'.deeds, .int .i64 R'.fuse] 83 (0, 0))) (hn : R'.n = R.n) (h1 : R'.now = R.now) (h2 : R'.last = R.last) (h3 : R'.fl = R.fl) (hf : -1 ≤ R'.fuse ∧ R'.fuse ≤ 9223372036854775807) : RmR w' q D R' nv lv fv :=
  ⟨hh, by rw [hn, h1]; exact h.now.mod hm h.nq, by rw [hn, h2]; exact h.last.mod hm h.lq, by rw [hn, h3]; exact h.fl.mod hm h.fq, ⟨by rw [h1]; exact h.ok.now, by rw [h2]; exact h.ok.last, hf⟩, by rw [hn]; exact h.hn, h.nq, h.lq, h.fq, h.nl, h.nf, h.lf, h.dq, h.dn, h.dl, h.df, fun b hb => Nat.lt_of_lt_of_le (h.lt b hb) hm.size⟩

set_option maxRecDepth 20000 in
theorem rm_dirty {w : World} {q : Nat} {D : Nat → Prop} {R : Rm} (h : RmAt w q D R) :
    Calls Try.prog 55 #[.pointer (some ⟨q, 0, none⟩)] w fun e w' => e = .returned (.int .i64 (R.dirty : Nat)) ∧ ∃ n, w' = w.drewN n := by
  obtain ⟨nv, lv, fv, h⟩ := h
  obtain ⟨m, hm⟩ : ∃ m, m = R.n := ⟨_, rfl⟩
  obtain ⟨ao, cap, e1, k1, k2⟩ := h.now.shape
  subst e1
  have H := Lib.hid h
  obtain ⟨c0, c1, -, -, -⟩ := h.cells
  have hn := h.hn
  rw [← hm] at c0 hn
  have HM := Lib.hid hm
  clear h k1 k2 hm
  go_enter Try.func55, Try.ntmps55
  go_wp2_with fail
  go_loopg [3, 4] m (fun gk cv iv wr => ∃ i : Nat, i + gk = m ∧ iv = .int .i64 i ∧ cv = .int .i64 (cnt R.dirt i : Nat) ∧ Hid (∃ n, wr = w.drewN n))
  case atStart => exact ⟨0, by omega, rfl, rfl, 0, rfl⟩
  case round =>
    obtain ⟨i, hi, rfl, rfl, HW⟩ := hrel
    have hmod : Mod nob w wr := by obtain ⟨n, rfl⟩ := HW.out; exact (Mod.refl nob w).drewN n
    have HR := Lib.hid (H.out.mod hmod (fun _ _ h => h))
    obtain ⟨d0, d1, -, -, -⟩ := HR.out.cells
    have hcl := cnt_le R.dirt i
    rw [← HM.out] at d0
    clear hmod c0 c1
    by_cases hlt : i < m
    · have hli : (i : Int) < (m : Int) := by omega
      have hi0 : (0 : Int) ≤ (i : Int) := Int.natCast_nonneg _
      obtain ⟨g, cap', e1, k1, k2, -, hc⟩ := HR.out.now.pos (by rw [← HM.out]; omega)
      simp only [Value.slice.injEq, true_and] at e1
      obtain ⟨rfl, rfl⟩ := e1
      obtain ⟨gl, capl, rfl, k3, k4, -, hcl2⟩ := HR.out.last.pos (by rw [← HM.out]; omega)
      have a1 := (hc i (by rw [← HM.out]; exact hlt)).1
      have a2 := (hcl2 i (by rw [← HM.out]; exact hlt)).1
      rw [← HM.out] at d1
      have hcs : cnt R.dirt (i + 1) = cnt R.dirt i + if R.now i = R.last i then 0 else 1 := by
        simp only [cnt, Rm.dirt]
        by_cases e : R.now i = R.last i <;> simp [e]
      have HCS := Lib.hid hcs
      obtain ⟨x, hx⟩ : ∃ x, x = R.now i := ⟨_, rfl⟩
      obtain ⟨y, hy⟩ : ∃ y, y = R.last i := ⟨_, rfl⟩
      obtain ⟨c, hcc⟩ : ∃ c, c = cnt R.dirt i := ⟨_, rfl⟩
      rw [← hx, ← hy, ← hcc] at HCS
      rw [← hx] at a1
      rw [← hy] at a2
      rw [← hcc] at hcl ⊢
      clear hc hcl2 hcs k1 k2 k3 k4 hx hy hcc
      by_cases e : x = y
      · subst e
        go_wp2_with fail
        go_region
        go_wp2_with fail
        go_roundg (gk - 1)
        case measure => omega
        case rel =>
          refine ⟨i + 1, by omega, by go_num, ?_, ?_⟩
          · rw [HCS.out]; simp
          · obtain ⟨n, h⟩ := HW.out
            exact ⟨n + 1, by rw [h]; rfl⟩
      · have hne : (x != y) = true := by simpa using e
        have HE := Lib.hid e
        clear e
        go_wp2_with fail
        go_region
        go_wp2_with fail
        go_roundg (gk - 1)
        case measure => omega
        case rel =>
          refine ⟨i + 1, by omega, by go_num, ?_, ?_⟩
          · rw [HCS.out, if_neg HE.out]; go_num
          · obtain ⟨n, h⟩ := HW.out
            exact ⟨n + 1, by rw [h]; rfl⟩
    · have hge : ¬ (i : Int) < (m : Int) := by omega
      obtain rfl : i = m := by omega
      go_wp2_with fail
      go_ret
      exact ⟨by rw [HM.out]; rfl, HW.out⟩
end Go.Proofs.Ytfpnmphmngdkdaa
