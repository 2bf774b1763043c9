/-
  The document's memory (imagoref01): a new one: a contract. No condition but the bounds that are typed.
-/
import Derived.Test.YtfpnmphmngdkdaaRm1
import Derived.Deep.RegionLawGrows
import Derived.Deep.DrawnRows
import Derived.Deep.OwnRows
namespace Go.Proofs.Ytfpnmphmngdkdaa
open Go.ChangeShapes Go.WideShapes Go.ChangeAt Go.RowKit
set_option linter.unusedSimpArgs false
set_option linter.unusedVariables false

/-- Below the first world's heap nothing has turned. -/
def Bel (a b : World) : Prop := Below a.heap.size a b
theorem Bel.rfl' (a : World) : Bel a a := Below.refl _ _
theorem Bel.al {a b : World} (h : Bel a b) (o : Obj) : Bel a (b.alloc o) := Below.alloc h h.size _
theorem Bel.dr {a b : World} (h : Bel a b) : Bel a b.drew := ⟨h.os, h.tape, h.output, h.size, h.block⟩
theorem Bel.via {a b c : World} (k : Bel b c) (h : Bel a b) : Bel a c := h.trans (k.mono h.size)
theorem Bel.mo {a b : World} (h : Bel a b) : Mod nob a b := mod_of_below h

theorem bel_grown {a b : World} (h : a.grownBy b none) : Bel a b := (Below.refl _ _).grown h (Nat.le_refl _) (by intro k hk; cases hk)

theorem NowR.bel {a b : World} {v : Value} {n : Nat} {f : Nat → Int} (h : NowR a v n f) (k : Bel a b) : NowR b v n f := h.mod k.mo (fun _ _ h => h)
theorem FlR.bel {a b : World} {v : Value} {n : Nat} {f : Nat → Bool} (h : FlR a v n f) (k : Bel a b) : FlR b v n f := h.mod k.mo (fun _ _ h => h)

theorem NowR.al {a : World} {v : Value} {n : Nat} {f : Nat → Int} (h : NowR a v n f) (o : Obj) : NowR (a.alloc o) v n f := h.bel ((Bel.rfl' _).al o)
theorem FlR.al {a : World} {v : Value} {n : Nat} {f : Nat → Bool} (h : FlR a v n f) (o : Obj) : FlR (a.alloc o) v n f := h.bel ((Bel.rfl' _).al o)
theorem FlR.dr {a : World} {v : Value} {n : Nat} {f : Nat → Bool} (h : FlR a v n f) : FlR a.drew v n f := h.bel ((Bel.rfl' _).dr)
theorem size_al (w : World) (o : Obj) : (w.alloc o).heap.size = w.heap.size + 1 := by simp
theorem size_dr (w : World) : w.drew.heap.size = w.heap.size := rfl

theorem FlR.new (w : World) (n g : Nat) (hg : g = w.heap.size) (hn : n ≤ 10000) : FlR (w.alloc (.cells (madeCells #[.bool false] n) 4)) (.slice (some ⟨g, 0, none⟩) n n) n (fun _ => false) := by
  subst hg
  have e : madeCells #[Value.bool false] n = Array.replicate n (.bool false) := by
    apply Array.toList_inj.1
    rw [toList_madeCells_one]
    simp
  refine ⟨_, n, _, rfl, heap_alloc_new _ _, Nat.le_refl _, by unfold maxLen; omega, by rw [e]; simp, fun i hi => ?_⟩
  rw [e, Array.getElem?_replicate, if_pos hi]

theorem NowR.dr {a : World} {v : Value} {n : Nat} {f : Nat → Int} (h : NowR a v n f) : NowR a.drew v n f := h.bel ((Bel.rfl' _).dr)
theorem NowR.new0 (w : World) (g : Nat) (f : Nat → Int) (hg : g = w.heap.size) : NowR (w.alloc (.cells #[] 41)) (.slice (some ⟨g, 0, none⟩) 0 0) 0 f := by
  subst hg
  exact .inr ⟨_, 0, _, rfl, heap_alloc_new _ _, Nat.le_refl _, Nat.zero_le _, rfl, fun i hi => by omega⟩

theorem HoldsU.bel {a b : World} {v : Value} {xs : List Int} (h : HoldsU a v xs) (k : Bel a b) : HoldsU b v xs := h.below k

/-- Nothing is appended. -/
theorem step_append_zero {P : Program} {ops : Array Oper} {o : Oper} {a : Act} {w : World} {K : Act → World → Prop} {Q : Exit → Act → World → Prop} {E : Prop}
    (hg : o.guard = none) (s x : Operand) (t : TypeId) (hop : o.op = Op.call { callee := Callee.builtin Builtin.append, args := #[s, x], argTypes := #[t, t] })
    (e : TypeId) (i : TypeInfo) (h1 : P.underlying t = some (.slice e)) (h2 : P.info? e = some i)
    (b : Addr) (hs : a.eval s = .slice (some b) 0 0) (ao : Option Addr) (c : Nat) (hx : a.eval x = .slice ao 0 c) (hK : K (a.put o.dst (.slice (some b) 0 0)) w) :
    if Region.wanted o (yielded ops a.tmps) = true then Oper.wp P o a w K Q else E := by
  have hw : Region.wanted o (yielded ops a.tmps) = true := by simp [Region.wanted, hg]
  rw [if_pos hw]
  have hrun : (Builtin.append_ #[t, t] o.type #[.slice (some b) 0 0, .slice ao 0 c]).run P w = .ok (.slice (some b) 0 0) w := by
    cases ao <;> simp [Builtin.append_, run_underlying h1, sizeOf, typeInfo, h2, Builtin.lenOf, Builtin.firstCells, storeCells, loadCells, loadCellsFrom]
  unfold Oper.wp
  simp [execOp, hop, resolve, invoke, builtin, hs, hx, hrun, Result.andThen]
  exact hK

/-- What New leaves. -/
theorem rm_made {w wf : World} {xs : List Int} {n g5 c5 g8 c8 g11 c11 : Nat} (hn : n = xs.length) (hN : n ≤ 10000) (hwf : ∀ z ∈ xs, 0 ≤ z ∧ z < 18446744073709551616)
    (h5 : NowR wf (.slice (some ⟨g5, 0, none⟩) n c5) n (fun i => xs.getD i 0)) (h8 : NowR wf (.slice (some ⟨g8, 0, none⟩) n c8) n (fun i => xs.getD i 0)) (h11 : FlR wf (.slice (some ⟨g11, 0, none⟩) n c11) n (fun _ => false))
    (l5 : w.heap.size ≤ g5 ∧ g5 < wf.heap.size) (l8 : w.heap.size ≤ g8 ∧ g8 < wf.heap.size) (l11 : w.heap.size ≤ g11 ∧ g11 < wf.heap.size) (n1 : g5 ≠ g8) (n2 : g5 ≠ g11) (n3 : g8 ≠ g11) (hb : Bel w wf) {p0 : Nat} (hp0 : p0 = wf.heap.size) : RmAt (wf.alloc (.cells #[.slice (some ⟨g5, 0, none⟩) n c5, .slice (some ⟨g8, 0, none⟩) n c8, .slice (some ⟨g11, 0, none⟩) n c11, .int .i64 0, .int .i64 (-1)] 83)) p0 (grow nob w (wf.alloc (.cells #[.slice (some ⟨g5, 0, none⟩) n c5, .slice (some ⟨g8, 0, none⟩) n c8, .slice (some ⟨g11, 0, none⟩) n c11, .int .i64 0, .int .i64 (-1)] 83))) (Rm.new xs) ∧ Below w.heap.size w (wf.alloc (.cells #[.slice (some ⟨g5, 0, none⟩) n c5, .slice (some ⟨g8, 0, none⟩) n c8, .slice (some ⟨g11, 0, none⟩) n c11, .int .i64 0, .int .i64 (-1)] 83)) := by
  subst hp0
  have hk : Bel wf (wf.alloc (.cells #[.slice (some ⟨g5, 0, none⟩) n c5, .slice (some ⟨g8, 0, none⟩) n c8, .slice (some ⟨g11, 0, none⟩) n c11, .int .i64 0, .int .i64 (-1)] 83)) := (Bel.rfl' _).al _
  have hs := hb.size
  have hget : ∀ i, 0 ≤ xs.getD i 0 ∧ xs.getD i 0 < 18446744073709551616 := by
    intro i
    by_cases hi : i < xs.length
    · rw [List.getD_eq_getElem?_getD, List.getElem?_eq_getElem hi]
      exact hwf _ (List.getElem_mem hi)
    · rw [List.getD_eq_getElem?_getD, List.getElem?_eq_none (by omega)]
      simp
  subst hn
  refine ⟨⟨_, _, _, heap_alloc_new _ _, h5.bel hk, h8.bel hk, h11.bel hk, ⟨hget, hget, by simp [Rm.new]⟩, hN, ?_, ?_, ?_, ?_, ?_, ?_, ?_, ?_, ?_, ?_, ?_⟩, Bel.via hk hb⟩
  · intro g e; cases e; show g5 ≠ wf.heap.size; omega
  · intro g e; cases e; show g8 ≠ wf.heap.size; omega
  · intro g e; cases e; show g11 ≠ wf.heap.size; omega
  · intro g e h; cases e; cases h; exact n1 rfl
  · intro g e h; cases e; cases h; exact n2 rfl
  · intro g e h; cases e; cases h; exact n3 rfl
  · exact .inr ⟨by omega, by simp⟩
  · intro g e; cases e; exact .inr ⟨l5.1, by simp; omega⟩
  · intro g e; cases e; exact .inr ⟨l8.1, by simp; omega⟩
  · intro g e; cases e; exact .inr ⟨l11.1, by simp; omega⟩
  · intro b hb
    rcases hb with hb | hb
    · exact hb.elim
    · exact hb.2


theorem rm_made_dr {w wf : World} {xs : List Int} {n g5 c5 g8 c8 g11 c11 : Nat} (hn : n = xs.length) (hN : n ≤ 10000) (hwf : ∀ z ∈ xs, 0 ≤ z ∧ z < 18446744073709551616)
    (h5 : NowR wf (.slice (some ⟨g5, 0, none⟩) n c5) n (fun i => xs.getD i 0)) (h8 : NowR wf (.slice (some ⟨g8, 0, none⟩) n c8) n (fun i => xs.getD i 0)) (h11 : FlR wf (.slice (some ⟨g11, 0, none⟩) n c11) n (fun _ => false))
    (l5 : w.heap.size ≤ g5 ∧ g5 < wf.heap.size) (l8 : w.heap.size ≤ g8 ∧ g8 < wf.heap.size) (l11 : w.heap.size ≤ g11 ∧ g11 < wf.heap.size) (n1 : g5 ≠ g8) (n2 : g5 ≠ g11) (n3 : g8 ≠ g11) (hb : Bel w wf) {p0 : Nat} (hp0 : p0 = wf.heap.size) : RmAt (wf.alloc (.cells #[.slice (some ⟨g5, 0, none⟩) n c5, .slice (some ⟨g8, 0, none⟩) n c8, .slice (some ⟨g11, 0, none⟩) n c11, .int .i64 0, .int .i64 (-1)] 83)).drew p0 (grow nob w (wf.alloc (.cells #[.slice (some ⟨g5, 0, none⟩) n c5, .slice (some ⟨g8, 0, none⟩) n c8, .slice (some ⟨g11, 0, none⟩) n c11, .int .i64 0, .int .i64 (-1)] 83)).drew) (Rm.new xs) ∧ Below w.heap.size w (wf.alloc (.cells #[.slice (some ⟨g5, 0, none⟩) n c5, .slice (some ⟨g8, 0, none⟩) n c8, .slice (some ⟨g11, 0, none⟩) n c11, .int .i64 0, .int .i64 (-1)] 83)).drew := by
  obtain ⟨h1, h2⟩ := rm_made hn hN hwf h5 h8 h11 l5 l8 l11 n1 n2 n3 hb hp0
  exact ⟨h1.mod (D0 := nob) ((Mod.refl nob _).drew) (fun _ _ h => h), Bel.dr h2⟩

attribute [local go_sem ↓] Go.wp_at_zero Go.wp_at_succ

set_option maxRecDepth 20000 in
set_option maxHeartbeats 40000000 in
theorem rm_new_none {w : World} {v : Value} {xs : List Int} (hv : HoldsU w v xs) (hl : xs.length ≤ 10000) (h0 : xs.length = 0) (hwf : ∀ z ∈ xs, 0 ≤ z ∧ z < 18446744073709551616) :
    Calls Try.prog 52 #[v] w fun e w' => ∃ p, e = .returned (.pointer (some ⟨p, 0, none⟩)) ∧ RmAt w' p (grow nob w w') (Rm.new xs) ∧ Below w.heap.size w w' := by
  obtain ⟨i0, hi0, hz0, hz1, hz2⟩ := info_parts Try.infoU64
  have HV := Lib.hid hv
  have HWF := Lib.hid hwf
  obtain ⟨n, hn⟩ : ∃ n, n = xs.length := ⟨_, rfl⟩
  obtain ⟨ao, c, rfl, hao, hlc, hcm, hcells⟩ := hv
  rw [← hn] at HV hl hlc h0 ⊢
  have HN := Lib.hid hn
  have HAO := Lib.hid hao
  have hmk := run_make_row' (P := Try.prog) 59 4 (.bool false) 1 Try.underlying59 Try.infoBool rfl .i64 .i64 n (by omega) (by omega)
  clear hwf hn hcells hao hcm
  subst h0
  clear hlc
  rw [show ((0 : Nat) : Int) = 0 from rfl] at hmk
  go_enter Try.func52, Try.ntmps52
  go_wp2_with fail
  go_region_law (first
    | (refine step_append_zero (o := ⟨some 5, _, _, _, _, _⟩) rfl (.tmp 3) (.tmp 4) 53 rfl 41 i0 Try.underlying53 hi0 _ (by rfl) ao c (by rfl) ?_)
    | (refine step_append_zero (o := ⟨some 8, _, _, _, _, _⟩) rfl (.tmp 6) (.tmp 7) 53 rfl 41 i0 Try.underlying53 hi0 _ (by rfl) ao c (by rfl) ?_))
  all_goals
    go_wp2_with fail
    go_ret
    go_simp
    refine rm_made_dr HN.out hl HWF.out ?_ ?_ ?_ ?_ ?_ ?_ ?_ ?_ ?_ ?_ ?_
    · repeat (first | (refine NowR.new0 _ _ _ ?_; (simp only [size_al, size_dr]; done)) | refine NowR.al ?_ _ | refine NowR.dr ?_)
    · repeat (first | (refine NowR.new0 _ _ _ ?_; (simp only [size_al, size_dr]; done)) | refine NowR.al ?_ _ | refine NowR.dr ?_)
    · repeat (first | (refine FlR.new _ _ _ ?_ hl; (simp only [size_al, size_dr]; done)) | refine FlR.al ?_ _ | refine FlR.dr ?_)
    · simp only [size_al, size_dr]; omega
    · simp only [size_al, size_dr]; omega
    · simp only [size_al, size_dr]; omega
    · omega
    · omega
    · omega
    · repeat (first | exact Bel.rfl' _ | refine Bel.al ?_ _ | refine Bel.dr ?_)
    · simp only [size_al, size_dr]

end Go.Proofs.Ytfpnmphmngdkdaa
