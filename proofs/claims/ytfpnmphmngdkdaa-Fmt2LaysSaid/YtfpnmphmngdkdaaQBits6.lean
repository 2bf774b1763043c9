/-
  imagoref05.Bits and imagoref05.Free, imagolaw06.sames of lists that are the same: contracts. No condition but the bounds that are typed.
-/
import Derived.Test.YtfpnmphmngdkdaaQLayGet
import Derived.Test.YtfpnmphmngdkdaaQShStep

namespace Go.Proofs.Ytfpnmphmngdkdaa
open Go.ChangeShapes Go.WideShapes Go.ChangeAt Go.RowKit
set_option linter.unusedSimpArgs false
set_option linter.unusedVariables false

/-- A block of 256 booleans. -/
def Bools (w : World) (g : Nat) (f : Nat → Bool) : Prop :=
  ∃ cs : Array Value, w.heap[g]? = some (.cells cs 4 (0, 0)) ∧ cs.size = 256 ∧ ∀ i, i < 256 → cs[i]? = some (.bool (f i))

theorem Bools.cell {w : World} {g : Nat} {f : Nat → Bool} (h : Bools w g f) (i : Nat) (hi : i < 256) : w.cell? ⟨g, i, none⟩ = some (.bool (f i)) := by
  obtain ⟨cs, hg, _, hc⟩ := h
  rw [cell_of_row _ _ _ _ _ _ hg]
  exact hc i hi

theorem Bools.frozen {w : World} {g : Nat} {f : Nat → Bool} (h : Bools w g f) (i : Nat) : w.frozen? ⟨g, i, none⟩ = false := by
  obtain ⟨cs, hg, _⟩ := h
  exact frozen_of_row w g i cs _ hg

theorem Bools.mod {w w' : World} {g : Nat} {f : Nat → Bool} (h : Bools w g f) {D : Nat → Prop} (hm : Mod D w w') (hg : ¬ D g) : Bools w' g f := by
  obtain ⟨cs, hh, r⟩ := h
  exact ⟨cs, hm.heap hh hg, r⟩

theorem Bools.lt {w : World} {g : Nat} {f : Nat → Bool} (h : Bools w g f) : g < w.heap.size := by
  obtain ⟨cs, hh, r⟩ := h
  exact lt_of_block hh

theorem Bools.set {w : World} {g : Nat} {f : Nat → Bool} (h : Bools w g f) (i : Nat) (v : Bool) : Bools (w.setCell ⟨g, i, none⟩ (.bool v)) g (fun k => if k = i then v else f k) := by
  obtain ⟨cs, hh, h1, h4⟩ := h
  refine ⟨_, heap_setCell_same w g i cs _ _ hh, by simpa using h1, fun k hk => ?_⟩
  simp only
  by_cases e : k = i
  · subst e
    rw [if_pos rfl, Array.getElem?_setIfInBounds]
    simp only [if_true]
    rw [if_pos (by omega)]
  · rw [if_neg e, Array.getElem?_setIfInBounds]
    rw [if_neg (fun h => e h.symm)]
    exact h4 k hk

/-- The bits of four words, below a place. -/
def bitOf (a : Nat → Int) (b : Nat) : Bool := (a (b / 64)).toNat.testBit (b % 64)
def bitTo (a : Nat → Int) (t : Nat) (b : Nat) : Bool := if b < t then bitOf a b else false

theorem bitTo_succ (a : Nat → Int) (t : Nat) (v : Bool) (hv : v = bitOf a t) : (fun k => if k = t then v else bitTo a t k) = bitTo a (t + 1) := by
  funext k
  simp only [bitTo]
  by_cases e : k = t
  · subst e
    rw [if_pos rfl, if_pos (by omega), hv]
  · rw [if_neg e]
    by_cases h : k < t
    · rw [if_pos h, if_pos (by omega)]
    · rw [if_neg h, if_neg (by omega)]

theorem bools_eq {w : World} {g : Nat} {a : Nat → Int} (h : Bools w g (bitTo a (64 * 4))) : Bools w g (bitOf a) := by
  obtain ⟨cs, h1, h2, h3⟩ := h
  refine ⟨cs, h1, h2, fun i hi => ?_⟩
  rw [h3 i hi, bitTo, if_pos (by omega)]

theorem infoBool : (Try.prog.info? 4).map (fun i => (i.zero, i.size, i.bytes)) = some (some (.bool false), 1, 1) := by kernel_rfl

theorem made_bools (a : Nat → Int) {w1 : World} {base g : Nat} (h : w1.ownsRow base 4 1 (.slice (some ⟨g, 0, none⟩) 256 256) 256 (madeCells (Value.bool false).cells (256 * 1)).toList) : Bools w1 g (bitTo a 0) := by
  rcases h.2 with ⟨hv, _⟩ | ⟨g', cap', cur, hv, _, hg, _, _, hsz, htk⟩
  · simp at hv
  · simp only [Value.slice.injEq, Option.some.injEq, Addr.mk.injEq, and_true, true_and] at hv
    obtain ⟨rfl, rfl⟩ := hv
    refine ⟨cur, hg, by simpa using hsz, fun i hi => ?_⟩
    have e1 : cur.toList = (madeCells (Value.bool false).cells (256 * 1)).toList := by
      rw [← htk, List.take_of_length_le (by simp [hsz])]
    have e2 : (madeCells (Value.bool false).cells (256 * 1)).toList = List.replicate 256 (Value.bool false) := by
      rw [Nat.mul_one]
      exact toList_madeCells_one _ _
    rw [← Array.getElem?_toList, e1, e2, List.getElem?_replicate, if_pos hi]
    rfl

set_option maxRecDepth 20000 in
set_option maxHeartbeats 1000000 in
theorem bits_any {w : World} (a : Nat → Int) (ha : ∀ i, 0 ≤ a i ∧ a i < 18446744073709551616) :
    Calls Try.prog 35 #[.agg #[.int .u64 (a 0), .int .u64 (a 1), .int .u64 (a 2), .int .u64 (a 3)]] w fun e w' => ∃ g, e = .returned (.slice (some ⟨g, 0, none⟩) 256 256) ∧ w.heap.size ≤ g ∧ Bools w' g (bitOf a) ∧ Below w.heap.size w w' := by
  obtain ⟨i0, hi0, hz0, hz1, hz2⟩ := info_parts infoBool
  have HAA := Lib.hid ha
  clear ha
  go_enter Try.func35, Try.ntmps35
  go_wp2_with (at_make; refine wpList_make_full _ rfl _ _ 59 rfl w.heap.size 4 i0 (.bool false) 1 Try.underlying59 hi0 hz0 hz1 .i64 .i64 256 256 256 rfl rfl rfl rfl (by rw [hz2]; omega) (by unfold maxLen; omega) (by simp) ?_)
  intro w1 hown1 hgr1
  have hg1 : w.heap.size < w1.heap.size ∧ True := ⟨by have := hgr1.size; simp at this; omega, trivial⟩
  have hbl := made_bools a hown1
  obtain ⟨B, hB⟩ : ∃ B, B = w.heap.size + 1 := ⟨_, rfl⟩
  obtain ⟨A, hA⟩ : ∃ A, A = w.heap.size := ⟨_, rfl⟩
  have hb0 : Below w.heap.size w w1 := ((Below.refl _ _).alloc (Nat.le_refl _) _).grown hgr1 (by simp) (by intro k hk; cases hk)
  have hbox : ∀ j, w1.cell? ⟨A, j, none⟩ = (#[Value.int .u64 (a 0), .int .u64 (a 1), .int .u64 (a 2), .int .u64 (a 3)] : Array Value)[j]? := fun j => by
    rw [hA, World.cell?_of_block (hgr1.block _ (by simp) (by intro h; cases h))]
    exact boxed_new w _ _ _ j
  rw [← hB] at hbl
  have HW0 := Lib.hid hbl
  have HB0 := Lib.hid hb0
  have HX0 := Lib.hid hbox
  have hAB : A ≠ B := by omega
  have HA := Lib.hid hA
  have HB := Lib.hid hB
  rw [← hB, ← hA]
  clear hown1 hgr1 hbl hb0 hbox hA hB hg1
  go_wp2
  go_loopg [4] 4 (fun g i wr => ∃ k : Nat, k + g = 4 ∧ i = .int .i64 k ∧ Hid (Bools wr B (bitTo a (64 * k))) ∧ Hid (∀ j, wr.cell? ⟨A, j, none⟩ = (#[Value.int .u64 (a 0), .int .u64 (a 1), .int .u64 (a 2), .int .u64 (a 3)] : Array Value)[j]?) ∧ Hid (Below w.heap.size w wr))
  case atStart => exact ⟨0, by omega, rfl, HW0, HX0, HB0⟩
  case round =>
    obtain ⟨i, hi, rfl, HW, HX, HBL⟩ := hrel
    by_cases hlt : i < 4
    · have hai := HAA.out i
      obtain ⟨x, hx⟩ : ∃ x : Nat, a i = (x : Int) := ⟨(a i).toNat, by omega⟩
      have hc : wr.cell? ⟨A, i, none⟩ = some (.int .u64 (x : Int)) := by
        rw [← hx, HX.out i]
        rcases (show i = 0 ∨ i = 1 ∨ i = 2 ∨ i = 3 by omega) with rfl | rfl | rfl | rfl <;> rfl
      have hx2 : x < 18446744073709551616 := by omega
      have HXA : Hid (∀ k, k < 64 → bitOf a (64 * i + k) = x.testBit k) := by
        intro k hk
        unfold bitOf
        rw [show (64 * i + k) / 64 = i by omega, show (64 * i + k) % 64 = k by omega, hx, Int.toNat_natCast]
      have HX2 := Lib.hid hx2
      clear hai hx hx2
      go_wp2
      go_loopg [5, 6] 64 (fun g n kk wr => ∃ k : Nat, k + g = 64 ∧ n = .int .u64 ((x / 2 ^ k : Nat) : Int) ∧ kk = .int .i64 k ∧ Hid (Bools wr B (bitTo a (64 * i + k))) ∧ Hid (∀ j, wr.cell? ⟨A, j, none⟩ = (#[Value.int .u64 (a 0), .int .u64 (a 1), .int .u64 (a 2), .int .u64 (a 3)] : Array Value)[j]?) ∧ Hid (Below w.heap.size w wr))
      case atStart => exact ⟨0, by omega, by simp, rfl, HW, HX, HBL⟩
      case round =>
        obtain ⟨k, hk, rfl, rfl, HW, HX, HBL⟩ := hrel
        by_cases hlt2 : k < 64
        · have hq : x / 2 ^ k < 18446744073709551616 := Nat.lt_of_le_of_lt (Nat.div_le_self _ _) HX2.out
          have hq2 : x / 2 ^ (k + 1) = x / 2 ^ k / 2 := by rw [Nat.pow_succ, Nat.div_div_eq_div_mul]
          have hbit : bitOf a (64 * i + k) = decide (x / 2 ^ k % 2 = 1) := by rw [HXA.out k hlt2, Nat.testBit_eq_decide_div_mod_eq]
          have hd := HW.out.cell (64 * i + k) (by omega)
          have hf := HW.out.frozen (64 * i + k)
          generalize x / 2 ^ k = q at hq hq2 hbit
          have HQ2 := Lib.hid hq2
          have HBIT := Lib.hid hbit
          clear hq2 hbit
          go_wp2
          go_roundg (64 - (k + 1))
          case measure => omega
          case rel =>
            refine ⟨k + 1, by omega, by rw [HQ2.out]; simp, (by simp), ?_, ?_, ?_⟩
            · have hv : (((q : Int) % 2 == 1) : Bool) = bitOf a (64 * i + k) := by
                rw [HBIT.out, Bool.eq_iff_iff]; simp; omega
              have := HW.out.set (64 * i + k) ((q : Int) % 2 == 1)
              rw [bitTo_succ a (64 * i + k) _ hv] at this
              exact this
            · intro j; rw [World.cell?_of_block (Below.heap_setCell _ _ _ _ (by simpa using hAB))]; exact HX.out j
            · exact HBL.out.setCell (by have := HB.out; show _ ≤ B; omega) _
        · obtain rfl : k = 64 := by omega
          go_wp2
          go_roundg (4 - (i + 1))
          case measure => omega
          case rel => exact ⟨i + 1, by omega, (by simp), by rw [show 64 * (i + 1) = 64 * i + 64 by omega]; exact HW, HX, HBL⟩
    · obtain rfl : i = 4 := by omega
      go_wp2
      go_ret
      exact ⟨B, rfl, by have := HB.out; omega, bools_eq HW.out, HBL.out⟩

/-- The places at which nothing is set, rising. -/
def freeF (f : Nat → Bool) : Nat → Nat → List Nat
  | _, 0 => []
  | b, k + 1 => if f b = true then freeF f (b + 1) k else b :: freeF f (b + 1) k
theorem freeF_eq (S : Sh) (k : Nat) : ∀ b, freeF (bitB S) b k = freeL S b k := by
  induction k with
  | zero => intro b; rfl
  | succ k ih => intro b; simp only [freeF, freeL]; rw [ih (b + 1)]
theorem freeF_congr (f g : Nat → Bool) (k : Nat) : ∀ b, (∀ c, b ≤ c → c < b + k → f c = g c) → freeF f b k = freeF g b k := by
  induction k with
  | zero => intro b _; rfl
  | succ k ih =>
    intro b h
    simp only [freeF]
    rw [h b (by omega) (by omega), ih (b + 1) (fun c h1 h2 => h c (by omega) (by omega))]

set_option maxRecDepth 20000 in
set_option maxHeartbeats 1000000 in
theorem free_ref {w : World} {g : Nat} {f : Nat → Bool} (hb : Bools w g f) :
    Calls Try.prog 34 #[.slice (some ⟨g, 0, none⟩) 256 256] w fun e w' => ∃ v, e = .returned v ∧ HoldsN w' v (freeF f 1 255) ∧ Below w.heap.size w w' := by
  obtain ⟨i0, hi0, hz0, hz1, hz2⟩ := info_parts infoInt
  have HB := Lib.hid hb
  have hgl := hb.lt
  have HGL := Lib.hid hgl
  clear hb hgl
  go_enter Try.func34, Try.ntmps34
  go_wp2_with fail
  go_loopg [3, 4] 255 (fun gk v iv wr => ∃ (k : Nat) (acc : List Nat), k + gk = 256 ∧ 1 ≤ k ∧ iv = .int .i64 k ∧ Hid (freeF f 1 255 = acc ++ freeF f k gk) ∧ Hid (acc.length < k) ∧ Hid (wr.ownsRow w.heap.size 3 1 v acc.length (nums acc)) ∧ Hid (Below w.heap.size w wr))
  case atStart => exact ⟨1, [], by omega, by omega, rfl, rfl, (by unfold Hid; simp), World.ownsRow_nil _ _ _ _, Below.refl _ _⟩
  case round =>
    obtain ⟨k, acc, hk, hk1, rfl, HF, HL, HO, HW⟩ := hrel
    by_cases hlt : k < 256
    · have hki : (k : Int) < 256 := by omega
      have hd := (HB.out.mod (mod_of_below HW.out) (fun h => h)).cell k hlt
      obtain ⟨gk', rfl⟩ : ∃ gk', gk = gk' + 1 := ⟨gk - 1, by omega⟩
      have hstep : freeF f k (gk' + 1) = if f k = true then freeF f (k + 1) gk' else k :: freeF f (k + 1) gk' := rfl
      cases hfk : f k with
      | true =>
        rw [hfk] at hd hstep
        rw [if_pos rfl] at hstep
        have HST := Lib.hid hstep
        clear hstep hfk
        go_wp2_with fail
        go_roundg gk'
        case measure => omega
        case rel => exact ⟨k + 1, acc, by omega, by omega, by go_num, by unfold Hid; rw [HF.out, HST.out], by unfold Hid; have := HL.out; omega, HO, HW⟩
      | false =>
        rw [hfk] at hd hstep
        rw [if_neg (by simp)] at hstep
        have HST := Lib.hid hstep
        obtain ⟨no, hno⟩ : ∃ no, no = acc.length := ⟨_, rfl⟩
        have hno2 : no < 256 := by have := HL.out; omega
        have HNO := Lib.hid hno
        rw [← hno] at HO
        have hsz := HW.out.size
        obtain ⟨va, vc, rfl, v1, v2, -⟩ := own_shape HO.out
        unfold maxLen at v2
        clear hstep hfk hno
        go_wp2_with (at_builtin; refine wpList_append_own_at _ rfl (.tmp 14) (.tmp 16) 44 rfl w.heap.size 3 i0 (.int .i64 0) 1 8 Try.underlying44 hi0 hz0 hz1 hz2 rfl (by decide) _ no (nums acc) rfl (HO.out.alloc _) ⟨wr.heap.size, 0, none⟩ 1 1 [.int .i64 (k : Int)] rfl rfl (cells_new _ _ _) (by simp [Value.oneCell']) (by unfold maxLen; omega) (by omega) (by simp; omega) ?_)
        intro v' w3 hown hgr _ hat
        have HW3 : Hid (Below w.heap.size w w3) := HW.out.trans (((Below.refl _ _).alloc hsz _).grown hgr (by simp; omega) (fun q hq => own_ge HO.out q hq))
        have HO3 : Hid (w3.ownsRow w.heap.size 3 1 v' (acc ++ [k]).length (nums (acc ++ [k]))) := by
          unfold Hid
          rw [nums_snoc, List.length_append, List.length_singleton, ← HNO.out]
          exact hown
        clear hown hgr hat
        go_wp2_with fail
        go_roundg gk'
        case measure => omega
        case rel => exact ⟨k + 1, acc ++ [k], by omega, by omega, by go_num, by unfold Hid; rw [HF.out, HST.out, List.append_assoc]; rfl, by unfold Hid; rw [List.length_append, List.length_singleton]; have := HL.out; omega, HO3, HW3⟩
    · have hge : ¬ (k : Int) < 256 := by omega
      obtain rfl : gk = 0 := by omega
      have hf : freeF f 1 255 = acc := by rw [HF.out]; exact List.append_nil acc
      have HFF := Lib.hid hf
      clear hf
      go_wp2_with fail
      go_ret
      refine ⟨_, rfl, ?_, HW.out⟩
      rw [HFF.out]
      exact holdsN_of_own rfl HO.out

set_option maxRecDepth 20000 in
set_option maxHeartbeats 1000000 in
theorem sames6 {w : World} {v u : Value} {l : List Nat} (hv : HoldsN w v l) (hu : HoldsN w u l) :
    Calls Try.prog 36 #[v, u] w fun e w' => e = .returned (.bool true) ∧ Below w.heap.size w w' := by
  have HV := Lib.hid hv
  have HU := Lib.hid hu
  obtain ⟨va, vc, rfl, v1, v2, -, -⟩ := hv
  obtain ⟨ua, uc, rfl, u1, u2, -, -⟩ := hu
  obtain ⟨L, hL⟩ : ∃ L, L = l.length := ⟨_, rfl⟩
  rw [← hL] at v1 u1 HV HU ⊢
  have HL := Lib.hid hL
  unfold maxLen at v2 u2
  clear hL
  go_enter Try.func36, Try.ntmps36
  go_wp2_with fail
  go_loopg [5] L (fun gk iv wr => ∃ k : Nat, k + gk = L ∧ iv = .int .i64 k ∧ Hid (Mod nob w wr))
  case atStart => exact ⟨0, by omega, rfl, Mod.refl _ _⟩
  case round =>
    obtain ⟨k, hk, rfl, HW⟩ := hrel
    by_cases hlt : k < L
    · have hki : (k : Int) < (L : Int) := by omega
      obtain ⟨ao', c', e, -, -, -, hcx⟩ := HV.out.mod HW.out (fun _ _ _ h => h)
      have hlen := HL.out
      rw [← hlen] at e
      simp only [Value.slice.injEq] at e
      obtain ⟨rfl, -, rfl⟩ := e
      obtain ⟨g, o, rfl, d1⟩ := hcx k (by omega)
      obtain ⟨ao', c', e, -, -, -, hcy⟩ := HU.out.mod HW.out (fun _ _ _ h => h)
      rw [← hlen] at e
      simp only [Value.slice.injEq] at e
      obtain ⟨rfl, -, rfl⟩ := e
      obtain ⟨g', o', rfl, d2⟩ := hcy k (by omega)
      generalize l.getD k 0 = x at *
      clear hcx hcy hlen
      go_wp2_with fail
      go_quiet (fail)
      go_wp2_with fail
      go_roundg (gk - 1)
      case measure => omega
      case rel => exact ⟨k + 1, by omega, by go_num, HW.out.drewN _⟩
    · have hge : ¬ (k : Int) < (L : Int) := by omega
      go_wp2_with fail
      go_ret
      exact ⟨rfl, HW.out.below (Nat.le_refl _) (fun b h => h.elim)⟩
end Go.Proofs.Ytfpnmphmngdkdaa
