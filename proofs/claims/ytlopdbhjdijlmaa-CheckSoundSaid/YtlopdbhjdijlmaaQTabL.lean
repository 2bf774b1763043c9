/-
  A table of thirty-two inodes, by value. No function of the program; no condition.
  A table of thirty-two inodes in a block. No function of the program; no condition.
  imagoref08.Table.Used and first: contracts. No condition but the inodes' being right.
  An empty table. No function of the program; no condition.
-/
import Derived.Test.YtlopdbhjdijlmaaQInoM
import Derived.Test.YtlopdbhjdijlmaaQRead1
import Derived.Test.YtlopdbhjdijlmaaQMisc8

namespace Go.Proofs.Ytlopdbhjdijlmaa
open Go.ChangeShapes Go.WideShapes Go.ChangeAt Go.RowKit
set_option linter.unusedSimpArgs false
set_option linter.unusedVariables false

def tabTo (f : Nat → Ino) (ev : Nat → Value) : Nat → List Value
  | 0 => []
  | k + 1 => tabTo f ev k ++ inoL (f k) (ev k)
def Len13 (f : Nat → Ino) : Prop := ∀ i, i < 32 → (f i).bl.length = 13
theorem tabTo_len {f : Nat → Ino} {ev : Nat → Value} (h : Len13 f) : ∀ k, k ≤ 32 → (tabTo f ev k).length = k * 18 := by
  intro k
  induction k with
  | zero => intro _; rfl
  | succ k ih =>
    intro hk
    simp only [tabTo]
    rw [List.length_append, ih (by omega), inoL_len (h k (by omega))]
    omega
theorem tabTo_congr {f g : Nat → Ino} {ev eg : Nat → Value} : ∀ k, (∀ i, i < k → f i = g i ∧ ev i = eg i) → tabTo f ev k = tabTo g eg k := by
  intro k
  induction k with
  | zero => intro _; rfl
  | succ k ih =>
    intro h
    simp only [tabTo]
    rw [ih (fun i hi => h i (by omega)), (h k (by omega)).1, (h k (by omega)).2]
theorem tabTo_split (f : Nat → Ino) (ev : Nat → Value) (i : Nat) : ∀ k, i < k → ∃ post, tabTo f ev k = tabTo f ev i ++ (inoL (f i) (ev i) ++ post) ∧ ∀ m v, tabTo (setT f i m) (setT ev i v) k = tabTo f ev i ++ (inoL m v ++ post) := by
  intro k
  induction k with
  | zero => intro h; omega
  | succ k ih =>
    intro hik
    by_cases e : i = k
    · subst e
      refine ⟨[], by simp [tabTo], fun m v => ?_⟩
      simp only [tabTo]
      rw [setT_same, setT_same, tabTo_congr i (g := f) (eg := ev) (fun j hj => ⟨setT_ne _ _ (by omega), setT_ne _ _ (by omega)⟩)]
      simp
    · obtain ⟨post, h1, h2⟩ := ih (by omega)
      refine ⟨post ++ inoL (f k) (ev k), ?_, fun m v => ?_⟩
      · simp only [tabTo]; rw [h1]; simp
      · simp only [tabTo]; rw [h2 m v, setT_ne _ _ (Ne.symm e), setT_ne _ _ (Ne.symm e)]; simp

def tabL (f : Nat → Ino) (ev : Nat → Value) : List Value := tabTo f ev 32
theorem tabL_len {f : Nat → Ino} {ev : Nat → Value} (h : Len13 f) : (tabL f ev).length = 576 := tabTo_len h 32 (Nat.le_refl _)

/-- The entries of a table's inodes. -/
def HoldsT (w : World) (f : Nat → Ino) (ev : Nat → Value) : Prop := ∀ i, i < 32 → HoldsE w (ev i) (f i).ents
theorem HoldsT.mod {w w' : World} {f : Nat → Ino} {ev : Nat → Value} (h : HoldsT w f ev) {D : Nat → Prop} (hm : Mod D w w') (hd : ∀ i, i < 32 → (f i).ents ≠ [] → ∀ g, (ev i).ownBlock = some g → ¬ D g) : HoldsT w' f ev := fun i hi => (h i hi).mod hm (hd i hi)
theorem HoldsT.still {w w' : World} {f : Nat → Ino} {ev : Nat → Value} (h : HoldsT w f ev) (hm : Mod nob w w') : HoldsT w' f ev := h.mod hm (fun _ _ _ _ _ h => h)
theorem HoldsT.set {w : World} {f : Nat → Ino} {ev : Nat → Value} (h : HoldsT w f ev) (i : Nat) {m : Ino} {v : Value} (hv : HoldsE w v m.ents) : HoldsT w (setT f i m) (setT ev i v) := fun j hj => by
  by_cases e : j = i
  · subst e; rw [setT_same, setT_same]; exact hv
  · rw [setT_ne _ _ e, setT_ne _ _ e]; exact h j hj
theorem tabL_one {f : Nat → Ino} {ev : Nat → Value} (h : ∀ i, i < 32 → (ev i).oneCell' = true) : ∀ k, k ≤ 32 → ∀ u ∈ tabTo f ev k, u.oneCell' = true := by
  intro k
  induction k with
  | zero => intro _ u hu; cases hu
  | succ k ih =>
    intro hk u hu
    simp only [tabTo] at hu
    rcases List.mem_append.1 hu with h1 | h1
    · exact ih (by omega) u h1
    · exact inoL_one (h k (by omega)) u h1
theorem HoldsT.one {w : World} {f : Nat → Ino} {ev : Nat → Value} (h : HoldsT w f ev) : ∀ i, i < 32 → (ev i).oneCell' = true := fun i hi => by
  obtain ⟨a, c, e, -⟩ := h i hi
  rw [e]; rfl
def nilT : Nat → Value := fun _ => .slice none 0 0
def inoT0 : Nat → Ino := fun _ => ino0
theorem len13_0 : Len13 inoT0 := fun _ _ => rfl
end Go.Proofs.Ytlopdbhjdijlmaa

namespace Go.Proofs.Ytlopdbhjdijlmaa
open Go.ChangeShapes Go.WideShapes Go.ChangeAt Go.RowKit
set_option linter.unusedSimpArgs false
set_option linter.unusedVariables false

/-- A table in a block of its own. -/
def TabB (w : World) (B : Nat) (f : Nat → Ino) (ev : Nat → Value) : Prop := w.heap[B]? = some (.cells (tabL f ev).toArray 44 (0, 0)) ∧ Len13 f
theorem TabB.new {f : Nat → Ino} {ev : Nat → Value} (h : Len13 f) (w : World) : TabB (w.alloc (.cells (tabL f ev).toArray 44)) w.heap.size f ev := ⟨heap_alloc_new _ _, h⟩
theorem TabB.mod {w w' : World} {B : Nat} {f : Nat → Ino} {ev : Nat → Value} (h : TabB w B f ev) {D : Nat → Prop} (hm : Mod D w w') (hd : ¬ D B) : TabB w' B f ev := ⟨hm.heap h.1 hd, h.2⟩
theorem TabB.lt {w : World} {B : Nat} {f : Nat → Ino} {ev : Nat → Value} (h : TabB w B f ev) : B < w.heap.size := by
  have := h.1
  by_cases hlt : B < w.heap.size
  · exact hlt
  · rw [Array.getElem?_eq_none (by omega)] at this; cases this
theorem TabB.all {w : World} {B : Nat} {f : Nat → Ino} {ev : Nat → Value} (h : TabB w B f ev) : w.rangeAt B 0 (tabL f ev) := by
  intro j v hj
  rw [Nat.zero_add, cell_of_row _ _ _ _ _ _ h.1]
  simpa using hj
theorem TabB.range {w : World} {B : Nat} {f : Nat → Ino} {ev : Nat → Value} (h : TabB w B f ev) (i : Nat) (hi : i < 32) : w.rangeAt B (i * 18) (inoL (f i) (ev i)) := by
  intro j v hj
  obtain ⟨post, h1, -⟩ := tabTo_split f ev i 32 hi
  have hl := tabTo_len (ev := ev) h.2 i (by omega)
  have hj18 : j < (inoL (f i) (ev i)).length := (List.getElem?_eq_some_iff.1 hj).1
  rw [cell_of_row _ _ _ _ _ _ h.1]
  show (tabTo f ev 32).toArray[i * 18 + j]? = some v
  rw [h1, List.getElem?_toArray, List.getElem?_append_right (by omega), hl, Nat.add_sub_cancel_left, List.getElem?_append_left hj18]
  exact hj
theorem TabB.fmt {w : World} {B : Nat} {f : Nat → Ino} {ev : Nat → Value} (h : TabB w B f ev) (i : Nat) (hi : i < 32) : w.cell? ⟨B, i * 18, none⟩ = some (.int .i64 (f i).format) := by
  have := h.range i hi 0 (.int .i64 (f i).format) rfl
  simpa using this
theorem TabB.frozen {w : World} {B : Nat} {f : Nat → Ino} {ev : Nat → Value} (h : TabB w B f ev) (k : Nat) : w.frozen? ⟨B, k, none⟩ = false := frozen_of_row _ _ _ _ _ h.1
theorem TabB.there {w : World} {B : Nat} {f : Nat → Ino} {ev : Nat → Value} (h : TabB w B f ev) (o n : Nat) (hn : o + n ≤ 576) : w.there B o n := by
  intro j hj
  refine ⟨?_, h.frozen _⟩
  rw [cell_of_row _ _ _ _ _ _ h.1, Array.getElem?_eq_getElem (by rw [List.size_toArray, tabL_len h.2]; omega)]
  rfl
theorem TabB.set {w : World} {B : Nat} {f : Nat → Ino} {ev : Nat → Value} (h : TabB w B f ev) (i : Nat) (hi : i < 32) {m : Ino} (hm : m.bl.length = 13) (v : Value) : TabB (w.setCells B (i * 18) (inoL m v)) B (setT f i m) (setT ev i v) := by
  obtain ⟨post, h1, h2⟩ := tabTo_split f ev i 32 hi
  have hl := tabTo_len (ev := ev) h.2 i (by omega)
  have hh := h.1
  rw [show tabL f ev = tabTo f ev i ++ (inoL (f i) (ev i) ++ post) from h1] at hh
  have := heap_setCells_mid B 44 (inoL m v) (tabTo f ev i) (inoL (f i) (ev i)) post w hh (by rw [inoL_len (h.2 i hi), inoL_len hm])
  rw [hl] at this
  refine ⟨?_, fun j hj => ?_⟩
  · rw [show tabL (setT f i m) (setT ev i v) = tabTo f ev i ++ (inoL m v ++ post) from h2 m v]
    exact this
  · by_cases e : j = i
    · subst e; rw [setT_same]; exact hm
    · rw [setT_ne _ _ e]; exact h.2 j hj
theorem TabB.whole {w : World} {B : Nat} {f g : Nat → Ino} {ev eg : Nat → Value} (h : TabB w B f ev) (hg : Len13 g) : TabB (w.setCells B 0 (tabL g eg)) B g eg := by
  obtain ⟨h1, h2⟩ := h
  have hl := tabL_len (ev := ev) h2
  have hl2 := tabL_len (ev := eg) hg
  refine ⟨?_, hg⟩
  generalize tabL f ev = L at *
  generalize tabL g eg = L2 at *
  exact heap_setCells_all B 44 L2 [] L w h1 (by omega)
theorem Try.info576 : (Try.prog.info? 44).map (·.size) = some 576 := by kernel_rfl
end Go.Proofs.Ytlopdbhjdijlmaa

namespace Go.Proofs.Ytlopdbhjdijlmaa
open Go.ChangeShapes Go.WideShapes Go.ChangeAt Go.RowKit
set_option linter.unusedSimpArgs false
set_option linter.unusedVariables false

/-- The inodes of a table are right. -/
def RightT (f : Nat → Ino) : Prop := ∀ i, i < 32 → (f i).Ok ∧ ((f i).format = 0 ∨ RightP (f i))
theorem RightT.len {f : Nat → Ino} (h : RightT f) : Len13 f := fun i hi => (h i hi).1.len
theorem RightT.fmt {f : Nat → Ino} (h : RightT f) {i : Nat} (hi : i < 32) : 0 ≤ (f i).format ∧ (f i).format ≤ 2 := by
  rcases (h i hi).2 with h1 | h1
  · omega
  · have := h1.1; omega
theorem usedT_le {f : Nat → Ino} (h : RightT f) : ∀ k, k ≤ 32 → usedT f k ≤ 40 * k := by
  intro k
  induction k with
  | zero => intro _; simp [usedT]
  | succ k ih =>
    intro hk
    have h1 := ih (by omega)
    simp only [usedT]
    by_cases h0 : 0 < (f k).format
    · rw [if_pos h0]
      rcases (h k (by omega)).2 with h2 | h2
      · omega
      · have := needI_le h2; omega
    · rw [if_neg h0]; omega

set_option maxRecDepth 20000 in
set_option maxHeartbeats 2000000 in
theorem used_tab {w : World} {f : Nat → Ino} {ev : Nat → Value} (hr : RightT f) (he : HoldsT w f ev) :
    Calls Try.prog 25 #[.agg (tabL f ev).toArray] w fun e w' => e = .returned (.int .i64 (usedT f 32 : Nat)) ∧ Below w.heap.size w w' := by
  have hb := TabB.new hr.len (ev := ev) w
  have HBEL : Hid (Below w.heap.size w (w.alloc (.cells (tabL f ev).toArray 44))) := (Below.refl _ _).alloc (Nat.le_refl _) _
  have HM0 : Hid (Mod nob w (w.alloc (.cells (tabL f ev).toArray 44))) := (Mod.refl nob w).alloc _
  have HT := Lib.hid hb
  have HE := Lib.hid (he.still HM0.out)
  have HR := Lib.hid hr
  have HSZ : Hid (∀ i, i < 32 → (Try.prog.info? 25).map (·.size) = some (inoL (f i) (ev i)).length) := fun i hi => by rw [inoL_len (hr.len i hi)]; exact Try.info18
  clear hb he hr
  go_enter Try.func25, Try.ntmps25
  go_wp2_with fail
  generalize w.alloc (.cells (tabL f ev).toArray 44) = w0 at *
  obtain ⟨X, hX⟩ : ∃ X, X = w.heap.size := ⟨_, rfl⟩
  rw [← hX] at HT ⊢
  have HXX := Lib.hid hX
  clear hX
  go_loopg [3, 4] 32 (fun gk nv iv wr => ∃ k : Nat, k + gk = 32 ∧ iv = .int .i64 k ∧ nv = .int .i64 (usedT f k : Nat) ∧ Hid (Mod nob w0 wr))
  case atStart => exact ⟨0, by omega, rfl, rfl, Mod.refl _ _⟩
  case round =>
    obtain ⟨k, hk, rfl, rfl, HM⟩ := hrel
    have hul := usedT_le HR.out k (by omega)
    by_cases hlt : k < 32
    · have hki : (k : Int) < 32 := by omega
      have hk0 : (0 : Int) ≤ (k : Int) := Int.natCast_nonneg _
      have HTK := Lib.hid (HT.out.mod HM.out (fun h => h))
      have c0 := HTK.out.fmt k hlt
      have hus : usedT f (k + 1) = usedT f k + if 0 < (f k).format then needI (f k) else 0 := rfl
      have hfm := HR.out.fmt hlt
      obtain ⟨u, hu⟩ : ∃ u, u = usedT f k := ⟨_, rfl⟩
      rw [← hu] at hus hul ⊢
      have HUS := Lib.hid hus
      have HRA := Lib.hid (HTK.out.range k hlt)
      have HSK := Lib.hid (HSZ.out k hlt)
      have HEK : Hid (HoldsE wr (ev k) (f k).ents) := (HE.out k hlt).mod HM.out (fun _ _ _ h => h)
      by_cases h0 : 0 < (f k).format
      · have hrp : RightP (f k) := by rcases (HR.out k hlt).2 with h1 | h1; omega; exact h1
        have HNC := Lib.hid (ref_need8 (HR.out k hlt).1 HEK.out hrp)
        have hn40 := needI_le hrp
        have HNX : Hid (usedT f (k + 1) = u + needI (f k)) := by unfold Hid; rw [HUS.out, if_pos h0]
        generalize (f k).format = fo at *
        clear hus hu hrp HUS
        go_wp2_with (first
          | (with_reducible refine wpList_load_mid (op := ⟨some 17, _, _, _, _, _⟩) rfl 25 _ rfl X (k * 18) rfl (inoL (f k) (ev k)) _ HRA.out Try.underlying25 rfl HSK.out ?_)
          | (go_at_call 29; refine HNC.out.mono ?_; rintro e w2 ⟨rfl, hb2⟩))
        have HM2 : Hid (Mod nob w0 w2) := HM.out.step (mod_of_below hb2) (fun _ h => h)
        clear hb2
        go_roundg (gk - 1)
        case measure => omega
        case rel => exact ⟨k + 1, by omega, by go_num, by rw [HNX.out]; congr 1, HM2⟩
      · have HNX : Hid (usedT f (k + 1) = u) := by unfold Hid; rw [HUS.out, if_neg h0]; rfl
        generalize (f k).format = fo at *
        clear hus hu HUS
        go_wp2_with fail
        go_roundg (gk - 1)
        case measure => omega
        case rel => exact ⟨k + 1, by omega, by go_num, by rw [HNX.out], HM⟩
    · have hge : ¬ (k : Int) < 32 := by omega
      obtain rfl : k = 32 := by omega
      go_wp2_with fail
      go_ret
      exact ⟨rfl, HBEL.out.trans (HM.out.below HBEL.out.size (fun b h => h.elim))⟩

/-- The first inode that is free, from one on; 32 for none. -/
noncomputable def firstT (f : Nat → Ino) : Nat → Nat → Option Nat
  | _, 0 => none
  | i, g + 1 => if (f i).format = 0 then some i else firstT f (i + 1) g
def optI : Option Nat → Int
  | none => -1
  | some i => (i : Int)

set_option maxRecDepth 20000 in
set_option maxHeartbeats 2000000 in
theorem first_tab {w : World} {f : Nat → Ino} {ev : Nat → Value} (hr : RightT f) :
    Calls Try.prog 59 #[.agg (tabL f ev).toArray] w fun e w' => e = .returned (.int .i64 (optI (firstT f 0 32))) ∧ Below w.heap.size w w' := by
  have hb := TabB.new hr.len (ev := ev) w
  have HBEL : Hid (Below w.heap.size w (w.alloc (.cells (tabL f ev).toArray 44))) := (Below.refl _ _).alloc (Nat.le_refl _) _
  have HT := Lib.hid hb
  have HR := Lib.hid hr
  obtain ⟨r, hre⟩ : ∃ r, r = firstT f 0 32 := ⟨_, rfl⟩
  have HR0 : Hid (r = firstT f 0 32) := hre
  rw [← hre]
  clear hb hr hre
  go_enter Try.func59, Try.ntmps59
  go_wp2_with fail
  generalize w.alloc (.cells (tabL f ev).toArray 44) = w0 at *
  obtain ⟨X, hX⟩ : ∃ X, X = w.heap.size := ⟨_, rfl⟩
  rw [← hX] at HT ⊢
  have HXX := Lib.hid hX
  clear hX
  go_loopg [3] 32 (fun gk iv wr => ∃ k : Nat, k + gk = 32 ∧ iv = .int .i64 k ∧ Hid (r = firstT f k gk) ∧ w0 = wr)
  case atStart => exact ⟨0, by omega, rfl, HR0.out, rfl⟩
  case round =>
    obtain ⟨k, hk, rfl, HF, rfl⟩ := hrel
    by_cases hlt : k < 32
    · have hki : (k : Int) < 32 := by omega
      have hk0 : (0 : Int) ≤ (k : Int) := Int.natCast_nonneg _
      have c0 := HT.out.fmt k hlt
      have hfm := HR.out.fmt hlt
      obtain ⟨g, rfl⟩ : ∃ g, gk = g + 1 := ⟨gk - 1, by omega⟩
      have hstep : firstT f k (g + 1) = if (f k).format = 0 then some k else firstT f (k + 1) g := rfl
      have HST := Lib.hid (HF.out.trans hstep)
      clear hstep
      by_cases h0 : (f k).format = 0
      · have hres : r = some k := by rw [HST.out, if_pos h0]
        have HRES := Lib.hid hres
        rw [h0] at c0
        clear hres h0
        go_wp2_with fail
        go_ret
        rw [HRES.out]
        exact ⟨rfl, HBEL.out⟩
      · have hres : r = firstT f (k + 1) g := by rw [HST.out, if_neg h0]
        have HRES := Lib.hid hres
        have h0b : ((f k).format == 0) = false := beq_false_of_ne h0
        generalize (f k).format = fo at *
        clear hres h0
        go_wp2_with fail
        go_roundg g
        case measure => omega
        case rel => exact ⟨k + 1, by omega, by go_num, HRES.out, rfl⟩
    · have hge : ¬ (k : Int) < 32 := by omega
      obtain rfl : gk = 0 := by omega
      have hres : r = none := HF.out
      have HRES := Lib.hid hres
      clear hres
      go_wp2_with fail
      go_ret
      rw [HRES.out]
      exact ⟨rfl, HBEL.out⟩
end Go.Proofs.Ytlopdbhjdijlmaa

namespace Go.Proofs.Ytlopdbhjdijlmaa
open Go.ChangeShapes Go.WideShapes Go.ChangeAt Go.RowKit
set_option linter.unusedSimpArgs false
set_option linter.unusedVariables false

theorem zeroT_eq : Try.zeroCells44 = (tabL inoT0 nilT).toArray := by kernel_rfl
end Go.Proofs.Ytlopdbhjdijlmaa
