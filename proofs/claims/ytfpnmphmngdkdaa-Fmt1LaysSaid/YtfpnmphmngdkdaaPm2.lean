/-
  A memory that may last: a deed, a word loaded, a word stored: contracts. No condition but the bounds that are typed.
-/
import Derived.Test.YtfpnmphmngdkdaaPm
namespace Go.Proofs.Ytfpnmphmngdkdaa
open Go.ChangeShapes Go.WideShapes Go.ChangeAt Go.RowKit
set_option linter.unusedSimpArgs false
set_option linter.unusedVariables false

theorem head6_set {w : World} {p : Nat} {a : Array Value} {t : TypeId} (h : w.heap[p]? = some (.cells a t (0, 0))) (k : Nat) (x : Value) : (w.setCell ⟨p, k, none⟩ x).heap[p]? = some (.cells (a.setIfInBounds k x) t (0, 0)) :=
  heap_setCell_same w p k _ t x h

set_option maxHeartbeats 400000 in
theorem pm_deed {w : World} {p : Nat} {D : Nat → Prop} {S : Pm} (h : PmAt w p D S) (hd : S.deeds < 4611686018427387904) :
    Calls Try.prog 107 #[.pointer (some ⟨p, 0, none⟩)] w fun e w' => e = .returned (.tuple #[]) ∧ PmAt w' p D S.deed ∧ Mod D w w' ∧ w'.heap.size = w.heap.size := by
  obtain ⟨v, ob, fb, h⟩ := h
  obtain ⟨-, -, -, c3, c4, c5⟩ := h.cells
  have f3 := h.frozen 3
  have f4 := h.frozen 4
  have f5 := h.frozen 5
  have hfu := h.ok.fuse
  have hsz := lt_of_block h.head
  by_cases hf : 0 < S.fuse
  · have hfin : Hid (S.deed = { S with deeds := S.deeds + 1, fuse := S.fuse - 1, gone := decide (S.fuse - 1 = 0) }) := by
      unfold Hid Pm.deed
      rw [if_pos hf, if_pos hf]
    have HR := Lib.hid h
    have HD : Hid ((decide (S.fuse - 1 = 0)) = (S.fuse - 1 == 0)) := by
      unfold Hid
      rw [Bool.eq_iff_iff]; simp
    generalize hx : S.fuse = x at c3 hfu hf HD hfin
    generalize hy : S.deeds = y at c4 hd hfin
    have HX := Lib.hid hx
    have HY := Lib.hid hy
    clear h hx hy
    go_enter Try.func107, Try.ntmps107
    go_wp2
    go_end0
    have hm : Mod (fun b => b = p) w (((w.setCell ⟨p, 4, none⟩ (.int .i64 (y + 1))).setCell ⟨p, 3, none⟩ (.int .i64 (x - 1))).setCell ⟨p, 5, none⟩ (.bool (x - 1 == 0))) :=
      (((Mod.refl (fun b => b = p) w).setCell (a := ⟨p, 4, none⟩) (.inl rfl) _).setCell (a := ⟨p, 3, none⟩) (.inl rfl) _).setCell (a := ⟨p, 5, none⟩) (.inl rfl) _
    refine ⟨rfl, ⟨v, ob, fb, HR.out.setHead hm ?_ rfl rfl rfl rfl HR.out.ok.deed⟩, hm.mono (fun b _ hb => by subst hb; exact HR.out.dp), by simp [World.setCell]⟩
    rw [head6_set (head6_set (head6_set HR.out.head 4 _) 3 _) 5 _, hfin.out, HD.out, HX.out, HY.out]
    rfl
  · have hfin : Hid (S.deed = { S with deeds := S.deeds + 1 }) := by
      unfold Hid Pm.deed
      rw [if_neg hf, if_neg hf]
    have HR := Lib.hid h
    have hf' : S.fuse ≤ 0 := by omega
    generalize hx : S.fuse = x at c3 hfu hf'
    generalize hy : S.deeds = y at c4 hd hfin
    have HX := Lib.hid hx
    have HY := Lib.hid hy
    clear h hx hy hf
    go_enter Try.func107, Try.ntmps107
    go_wp2
    go_end0
    have hm : Mod (fun b => b = p) w (w.setCell ⟨p, 4, none⟩ (.int .i64 (y + 1))) :=
      (Mod.refl (fun b => b = p) w).setCell (a := ⟨p, 4, none⟩) (.inl rfl) _
    refine ⟨rfl, ⟨v, ob, fb, HR.out.setHead hm ?_ rfl rfl rfl rfl HR.out.ok.deed⟩, hm.mono (fun b _ hb => by subst hb; exact HR.out.dp), by simp [World.setCell]⟩
    rw [head6_set HR.out.head 4 _, hfin.out, HX.out, HY.out]
    rfl

theorem pm_load {w : World} {p : Nat} {D : Nat → Prop} {S : Pm} (h : PmAt w p D S) (i : Int) :
    Calls Try.prog 49 #[.pointer (some ⟨p, 0, none⟩), .int .i64 i] w fun e w' => e = .returned (.tuple #[.int .u64 (S.load i), .int .i64 (S.may i)]) ∧ w = w' := by
  have HM := Lib.hid (pm_may h i)
  have HL := Lib.hid h
  obtain ⟨v, ob, fb, h⟩ := h
  have hl : S.load i = if S.may i = 0 then S.now i.toNat else 0 := rfl
  by_cases hm : S.may i = 0
  · obtain ⟨h0, h1, -⟩ := Pm.may_ok hm
    obtain ⟨n, rfl⟩ := Int.eq_ofNat_of_zero_le h0
    obtain ⟨g, cap, rfl, -, -, -, hc⟩ := h.now.pos (by omega)
    obtain ⟨c0, -, -, -, -, -⟩ := h.cells
    have c1 := (hc n (by omega)).1
    rw [if_pos hm] at hl
    rw [hm] at HM ⊢
    have HLL := Lib.hid hl
    clear h hl hc hm
    go_enter Try.func49, Try.ntmps49
    go_wp2_with (go_at_call 106; refine HM.out.mono ?_; rintro e w' ⟨rfl, rfl⟩)
    go_ret2
    rw [HLL.out]
    exact ⟨rfl, rfl⟩
  · have hne : ((S.may i) != 0) = true := by simpa using hm
    rw [if_neg hm] at hl
    have HLL := Lib.hid hl
    generalize S.may i = m at HM hne ⊢
    clear h hl hm
    go_enter Try.func49, Try.ntmps49
    go_wp2_with (go_at_call 106; refine HM.out.mono ?_; rintro e w' ⟨rfl, rfl⟩)
    go_ret2
    rw [HLL.out]
    exact ⟨rfl, rfl⟩
end Go.Proofs.Ytfpnmphmngdkdaa
