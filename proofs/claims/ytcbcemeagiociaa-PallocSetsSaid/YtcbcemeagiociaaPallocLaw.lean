import Derived.Test.YtcbcemeagiociaaPallocTake
namespace Go.Proofs.Ytcbcemeagiociaa
open Go.ChangeShapes Go.WideShapes Go.ChangeAt Go.RowKit
set_option linter.unusedSimpArgs false
set_option linter.unusedVariables false

/-- The words over which law05's sheet lies. -/
def w5 (a : Nat → Int) (k : Nat) : Int := if 816 ≤ k ∧ k < 820 then a (k - 816) else if 1080 ≤ k then 1 else 0
def row5 (f : Nat → Int) : List Int := (List.range 3128).map f

def part5 (a : Nat → Int) (i : Nat) (k : Nat) : Int := if 816 ≤ k ∧ k < 816 + i then a (k - 816) else 0
def part5' (a : Nat → Int) (i : Nat) (k : Nat) : Int := if 816 ≤ k ∧ k < 820 then a (k - 816) else if 1080 ≤ k ∧ k < i then 1 else 0

theorem part5_succ (a : Nat → Int) (k : Nat) (hk : k < 4) : upd (part5 a k) (816 + k) (a k) = part5 a (k + 1) := by
  funext j
  simp only [upd, part5]
  by_cases e : j = 816 + k
  · subst e
    rw [if_pos rfl, if_pos (by omega), Nat.add_sub_cancel_left]
  · rw [if_neg e]
    by_cases h : 816 ≤ j ∧ j < 816 + k
    · rw [if_pos h, if_pos (by omega)]
    · rw [if_neg h, if_neg (by omega)]

theorem part5_end (a : Nat → Int) : part5 a 4 = part5' a 1080 := by
  funext j
  simp only [part5, part5']
  by_cases h : 816 ≤ j ∧ j < 816 + 4
  · rw [if_pos h, if_pos (by omega)]
  · rw [if_neg h, if_neg (by omega), if_neg (by omega)]

theorem part5'_succ (a : Nat → Int) (k : Nat) (hk : 1080 ≤ k) : upd (part5' a k) k 1 = part5' a (k + 1) := by
  funext j
  simp only [upd, part5']
  by_cases e : j = k
  · subst e
    rw [if_pos rfl, if_neg (by omega), if_pos (by omega)]
  · rw [if_neg e]
    by_cases h : 816 ≤ j ∧ j < 820
    · rw [if_pos h, if_pos h]
    · rw [if_neg h, if_neg h]
      by_cases h2 : 1080 ≤ j ∧ j < k
      · rw [if_pos h2, if_pos (by omega)]
      · rw [if_neg h2, if_neg (by omega)]

theorem part5'_end (a : Nat → Int) (j : Nat) (hj : j < 3128) : part5' a 3128 j = w5 a j := by
  simp only [part5', w5]
  by_cases h : 816 ≤ j ∧ j < 820
  · rw [if_pos h, if_pos h]
  · rw [if_neg h, if_neg h]
    by_cases h2 : 1080 ≤ j
    · rw [if_pos ⟨h2, hj⟩, if_pos h2]
    · rw [if_neg (by omega), if_neg h2]

theorem row5_length (f : Nat → Int) : (row5 f).length = 3128 := by simp [row5]
theorem row5_get (f : Nat → Int) (j : Nat) (hj : j < 3128) : (row5 f)[j]? = some (f j) := by
  unfold row5
  rw [List.getElem?_map, List.getElem?_range hj]
  rfl

theorem holds_words {w : World} {B : Nat} {f g : Nat → Int} (h : Words w B 3128 f) (he : ∀ j, j < 3128 → f j = g j) : HoldsU w (.slice (some ⟨B, 0, none⟩) 3128 3128) (row5 g) := by
  refine ⟨some ⟨B, 0, none⟩, 3128, by rw [row5_length], (by intro h; cases h), by rw [row5_length]; omega, by unfold maxLen; omega, ?_⟩
  intro ad had j u hj
  cases had
  have hlt : j < 3128 := by
    have := (List.getElem?_eq_some_iff.1 hj).1
    simpa [u64s, row5_length] using this
  have hadd : (⟨B, 0, none⟩ : Addr).add j = ⟨B, j, none⟩ := by unfold Addr.add; split <;> simp_all
  rw [hadd, h.cell j hlt, he j hlt, ← hj]
  unfold u64s
  rw [List.getElem?_map, row5_get _ _ hlt]
  rfl

set_option maxRecDepth 20000 in
theorem sheet5_any {w : World} (a : Nat → Int) (ha : ∀ i, 0 ≤ a i ∧ a i < 18446744073709551616) :
    Calls Try.prog 47 #[.agg #[.int .u64 (a 0), .int .u64 (a 1), .int .u64 (a 2), .int .u64 (a 3)]] w fun e w' => ∃ p, e = .returned (.pointer (some ⟨p, 0, none⟩)) ∧ SheetAt w' p (grow nob w w') (Sh.new (row5 (w5 a))) ∧ Below w.heap.size w w' := by
  obtain ⟨i0, hi0, hz0, hz1, hz2⟩ := info_parts Try.infoU64
  have HWF : Hid (∀ z ∈ row5 (w5 a), 0 ≤ z ∧ z < 18446744073709551616) := by
    intro z hz
    obtain ⟨k, _, rfl⟩ := List.mem_map.1 hz
    unfold w5
    have := ha (k - 816)
    split
    · exact this
    · split <;> omega
  clear ha
  go_enter Try.func47, Try.ntmps47
  go_wp2_with (at_make; refine wpList_make_full _ rfl _ _ 24 rfl w.heap.size 26 i0 (.int .u64 0) 1 Try.underlying24 hi0 hz0 hz1 .i64 .i64 3128 3128 3128 rfl rfl rfl rfl (by rw [hz2]; omega) (by unfold maxLen; omega) (by simp) ?_)
  intro w1 hown1 hgr1
  go_wp2
  have hh := made_block hown1
  obtain ⟨B, hB⟩ : ∃ B, B = w.heap.size + 1 := ⟨_, rfl⟩
  obtain ⟨A, hA⟩ : ∃ A, A = w.heap.size := ⟨_, rfl⟩
  have hb0 : Below w.heap.size w w1 := ((Below.refl _ _).alloc (Nat.le_refl _) _).grown hgr1 (by simp) (by intro k hk; cases hk)
  have hbox : ∀ j, w1.cell? ⟨A, j, none⟩ = (#[Value.int .u64 (a 0), .int .u64 (a 1), .int .u64 (a 2), .int .u64 (a 3)] : Array Value)[j]? := fun j => by
    rw [hA, World.cell?_of_block (hgr1.block _ (by simp) (by intro h; cases h))]
    exact boxed_new w _ _ _ j
  rw [← hB] at hh
  have HW0 : Hid (Words w1 B 3128 (part5 a 0)) := ⟨_, hh, by simp [zeroRow], by omega, by unfold maxLen; omega, fun i hi => by
    simp only [part5]
    rw [if_neg (by omega)]
    have := zeroRow_get 3128 i hi
    simpa using this⟩
  have HB0 := Lib.hid hb0
  have HX0 := Lib.hid hbox
  have hAB : A ≠ B := by omega
  have HA := Lib.hid hA
  have HB := Lib.hid hB
  rw [← hB, ← hA]
  clear hown1 hgr1 hh hb0 hbox hA hB
  go_wp2
  go_loopg [4] 4 (fun g i wr => ∃ k : Nat, k + g = 4 ∧ i = .int .i64 k ∧ Hid (Words wr B 3128 (part5 a k)) ∧ Hid (∀ j, wr.cell? ⟨A, j, none⟩ = (#[Value.int .u64 (a 0), .int .u64 (a 1), .int .u64 (a 2), .int .u64 (a 3)] : Array Value)[j]?) ∧ Hid (Below w.heap.size w wr))
  case atStart => exact ⟨0, by omega, rfl, HW0, HX0, HB0⟩
  case round =>
    obtain ⟨k, hk, rfl, HW, HX, HBL⟩ := hrel
    by_cases hlt : k < 4
    · have hc : wr.cell? ⟨A, k, none⟩ = some (.int .u64 (a k)) := by
        rw [HX.out k]
        rcases (show k = 0 ∨ k = 1 ∨ k = 2 ∨ k = 3 by omega) with rfl | rfl | rfl | rfl <;> rfl
      have hd := HW.out.cell (816 + k) (by omega)
      have hf := HW.out.frozen (816 + k)
      go_wp2
      go_roundg (gk - 1)
      case measure => omega
      case rel =>
        refine ⟨k + 1, by omega, (by simp), ?_, ?_, ?_⟩
        · unfold Hid; rw [← part5_succ a k hlt]; exact HW.out.set _ _
        · intro j; rw [World.cell?_of_block (Below.heap_setCell _ _ _ _ (by simpa using hAB))]; exact HX.out j
        · exact HBL.out.setCell (by have := HB.out; show _ ≤ B; omega) _
    · obtain rfl : k = 4 := by omega
      go_wp2
      simp only [show ((4 : Nat) : Int) = 4 from rfl]
      go_loopg [5] 2048 (fun g i wr => ∃ k : Nat, k + g = 3128 ∧ 1080 ≤ k ∧ i = .int .i64 k ∧ Hid (Words wr B 3128 (part5' a k)) ∧ Hid (Below w.heap.size w wr))
      case atStart => exact ⟨1080, by omega, by omega, rfl, part5_end a ▸ HW, HBL⟩
      case round =>
        obtain ⟨k, hk, hk1, rfl, HW, HBL⟩ := hrel
        by_cases hlt : k < 3128
        · have hd := HW.out.cell k (by omega)
          have hf := HW.out.frozen k
          go_wp2
          go_roundg (gk - 1)
          case measure => omega
          case rel =>
            refine ⟨k + 1, by omega, by omega, (by simp), ?_, ?_⟩
            · unfold Hid; rw [← part5'_succ a k hk1]; exact HW.out.set _ _
            · exact HBL.out.setCell (by have := HB.out; show _ ≤ B; omega) _
        · obtain rfl : k = 3128 := by omega
          go_wp2_with (go_at_call 30; refine (tx_new (holds_words HW.out (part5'_end a)) HWF.out).mono ?_; rintro e w2 ⟨p, rfl, hs, hb⟩)
          go_ret
          exact ⟨p, rfl, hs.mono (fun b h => by rcases h with h | h; exact h.elim; exact .inr ⟨by have := HBL.out.size; omega, h.2⟩) (fun b h => by rcases h with h | h; exact h.elim; exact h.2), HBL.out.trans (hb.mono HBL.out.size)⟩

theorem bit_none (c : Nat) : bitB (Sh.new []) c = false := by
  unfold bitB
  have : (Sh.new []).now (816 + c / 64) = 0 := by simp [Sh.new]
  rw [this]
  simp

theorem free_none : 2 ≤ freeN (Sh.new []) := by
  have h : ∀ f, 2 ≤ freeFrom (Sh.new []) 1 (f + 1 + 1) := by
    intro f
    simp only [freeFrom, bit_none, if_true]
    omega
  rw [freeN_from]
  exact h 253

theorem take_none : (takeFrom 255 (Sh.new []) 1 2).2 = [1, 2] := by
  have h : ∀ f, (takeFrom (f + 1 + 1) (Sh.new []) 1 2).2 = [1, 2] := by
    intro f
    rw [takeFrom_free (bit_none 1) (by omega)]
    simp only [show (2 : Nat) - 1 = 1 from rfl, show (1 : Nat) + 1 = 2 from rfl]
    rw [takeFrom_free (by rw [bit_takeB _ _ (by omega) (by omega) _ (by omega), if_neg (by omega)]; exact bit_none 2) (by omega), takeFrom_zero]
  exact h 253

set_option maxRecDepth 20000 in
theorem awake5 (w : World) : Calls Try.prog 46 #[] w fun e w' => e = .returned (.bool true) ∧ Below w.heap.size w w' := by
  have hle := takeFrom_law 255 (Sh.new []) 1 2 (by omega) (by omega) (by rw [← freeN_from]; exact free_none)
  have htake := fun (w : World) (p : Nat) (D : Nat → Prop) (h : SheetAt w p D (Sh.new [])) => take_ok h (by simp [Sh.new]) 2 free_none
  have hbit : bitB (takeFrom 255 (Sh.new []) 1 2).1 2 = true := by
    rw [hle.2.2.1 2 (by omega), take_none]
    simp
  rw [take_none] at htake
  generalize (takeFrom 255 (Sh.new []) 1 2).1 = T at hbit htake
  have HT := Lib.hid htake
  have HBIT := Lib.hid hbit
  clear hle hbit htake
  go_enter Try.func46, Try.ntmps46
  go_wp2_with fail
  refine (tx_new (HoldsU.nil _) (by simp)).mono ?_
  rintro e w1 ⟨p, rfl, hS, hb⟩
  have HS := Lib.hid hS
  have HB := Lib.hid hb
  clear hS hb
  go_wp2_with fail
  refine (HT.out _ _ _ HS.out).mono ?_
  rintro e w2 ⟨v, rfl, hT⟩
  obtain ⟨D, h1, h2, h3, h4, h5⟩ := hT
  obtain ⟨g, cap, rfl, hg0, hg1, _, _⟩ := own_some h2 (by simp)
  have hcell : w2.cell? ⟨g, 0, none⟩ = some (.int .i64 1) := by
    rw [h2.cellAt 0 (by simp)]
    simp [nums]
  have HU := Lib.hid (used_any h1 2 (by omega))
  rw [HBIT.out] at HU
  have HM := Lib.hid h5
  have H4 := Lib.hid h4
  simp only [show [1, 2].length = 2 from rfl]
  clear h1 h2 h3 h4 h5
  go_wp2_with (go_at_call 51; refine HU.out.mono ?_; rintro e w3 ⟨rfl, rfl⟩)
  go_ret
  refine ⟨rfl, ?_⟩
  have hb := HB.out
  exact hb.trans (HM.out.below hb.size (fun b h => by rcases h with h | h; exact h.elim; exact h.1))
end Go.Proofs.Ytcbcemeagiociaa
