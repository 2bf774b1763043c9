/-
  A sheet, step by step; numbers in slices; bits of an inode's first word: general lemmas, and what fmt1.tag and fmt1.long answer. No condition but the bounds that are typed.
-/
import Derived.Test.YtlopdbhjdijlmaaQRightM
import Derived.Test.YtlopdbhjdijlmaaQPallocM
import Derived.Test.YtlopdbhjdijlmaaQPackM

namespace Go.Proofs.Ytlopdbhjdijlmaa
open Go.ChangeShapes Go.WideShapes Go.ChangeAt Go.RowKit
set_option linter.unusedSimpArgs false
set_option linter.unusedVariables false

/-- From a world on, the sheet alone has turned. -/
def ShStep (w : World) (p : Nat) (D : Nat → Prop) (w' : World) (S' : Sh) : Prop := SheetAt w' p (grow D w w') S' ∧ Mod D w w'

theorem ShStep.start {w : World} {p : Nat} {D : Nat → Prop} {S : Sh} (h : SheetAt w p D S) : ShStep w p D w S := ⟨h.mono (fun b hb => .inl hb) (fun b hb => h.lt b (grow_refl.1 hb)), Mod.refl _ _⟩

theorem ShStep.step {w w1 w2 : World} {p : Nat} {D : Nat → Prop} {S1 S2 : Sh} (h : ShStep w p D w1 S1) (k1 : SheetAt w2 p (grow (grow D w w1) w1 w2) S2) (k2 : Mod (grow D w w1) w1 w2) : ShStep w p D w2 S2 := by
  obtain ⟨h1, h2⟩ := h
  have hs1 := h2.size
  have hs2 := k2.size
  have hD : ∀ b, grow (grow D w w1) w1 w2 b → grow D w w2 b := by
    intro b hb
    rcases hb with (hb | hb) | hb
    · exact .inl hb
    · exact .inr ⟨hb.1, by omega⟩
    · exact .inr ⟨by omega, hb.2⟩
  refine ⟨k1.mono hD ?_, h2.trans k2⟩
  intro b hb
  rcases hb with hb | hb
  · exact k1.lt b (.inl (.inl hb))
  · exact hb.2

theorem ShStep.step' {w w1 w2 : World} {p : Nat} {D : Nat → Prop} {S1 S2 : Sh} (h : ShStep w p D w1 S1) (k : ShStep w1 p (grow D w w1) w2 S2) : ShStep w p D w2 S2 := h.step k.1 k.2

theorem ShStep.still {w w1 w2 : World} {p : Nat} {D : Nat → Prop} {S1 : Sh} (h : ShStep w p D w1 S1) (hm : Mod nob w1 w2) : ShStep w p D w2 S1 := by
  have hs := hm.size
  refine ⟨(h.1.mod hm (fun _ _ h => h)).mono (fun b hb => ?_) (fun b hb => ?_), h.2.trans (hm.mono (fun b _ hb => hb.elim))⟩
  · rcases hb with hb | hb
    · exact .inl hb
    · exact .inr ⟨hb.1, by omega⟩
  · rcases hb with hb | hb
    · have := h.1.lt b (.inl hb)
      omega
    · exact hb.2

/-- Behind new blocks that are not the sheet's. -/
theorem ShStep.over {w w1 w2 w3 : World} {p : Nat} {D : Nat → Prop} {S1 S3 : Sh} (h : ShStep w p D w1 S1) (hm : Mod nob w1 w2) (k : ShStep w2 p (grow D w w1) w3 S3) : ShStep w p D w3 S3 := by
  have hs := hm.size
  have hs2 := h.2.size
  have hs3 := k.2.size
  have hD : ∀ b, grow (grow D w w1) w2 w3 b → grow D w w3 b := by
    intro b hb
    rcases hb with (hb | hb) | hb
    · exact .inl hb
    · exact .inr ⟨hb.1, by omega⟩
    · exact .inr ⟨by omega, hb.2⟩
  refine ⟨k.1.mono hD ?_, h.2.trans ((hm.mono (fun b _ hb => hb.elim)).trans (k.2.mono (fun b _ hb => .inl hb)))⟩
  intro b hb
  rcases hb with hb | hb
  · exact k.1.lt b (.inl (.inl hb))
  · exact hb.2

theorem ShStep.at (w : World) {w2 : World} {p : Nat} {D : Nat → Prop} {S : Sh} (h : SheetAt w p D S) (hm : Mod nob w w2) : ShStep w2 p D w2 S := ShStep.start (h.mod hm (fun _ _ h => h))

theorem ShStep.below {w w1 : World} {p : Nat} {D : Nat → Prop} {S1 : Sh} (h : ShStep w p D w1 S1) {B : Nat} (hB : B ≤ w.heap.size) (hD : ∀ b, D b → B ≤ b) : Below B w w1 := h.2.below hB hD

/-- What a slice value of numbers holds. -/
def HoldsN (w : World) (v : Value) (l : List Nat) : Prop :=
  ∃ ao c, v = .slice ao l.length c ∧ l.length ≤ c ∧ c ≤ maxLen ∧ (ao = none → c = 0) ∧ ∀ j, j < l.length → ∃ g o, ao = some ⟨g, o, none⟩ ∧ w.cell? ⟨g, o + j, none⟩ = some (.int .i64 (l.getD j 0 : Nat))

theorem HoldsN.nil (w : World) : HoldsN w (.slice none 0 0) [] := ⟨none, 0, rfl, Nat.le_refl _, Nat.zero_le _, fun _ => rfl, fun j h => by simp at h⟩

theorem HoldsN.mod {w w' : World} {v : Value} {l : List Nat} (h : HoldsN w v l) {D : Nat → Prop} (hm : Mod D w w') (hd : l ≠ [] → ∀ g, v.ownBlock = some g → ¬ D g) : HoldsN w' v l := by
  obtain ⟨ao, c, rfl, h1, h2, h3, h4⟩ := h
  refine ⟨ao, c, rfl, h1, h2, h3, fun j hj => ?_⟩
  obtain ⟨g, o, rfl, e1⟩ := h4 j hj
  exact ⟨g, o, rfl, hm.cell e1 (hd (fun e => by rw [e] at hj; simp at hj) g rfl)⟩

theorem HoldsN.below {w w' : World} {v : Value} {l : List Nat} (h : HoldsN w v l) (hb : Below w.heap.size w w') : HoldsN w' v l := h.mod (mod_of_below hb) (fun _ _ _ h => h)

theorem HoldsN.lt {w : World} {v : Value} {l : List Nat} (h : HoldsN w v l) (hl : l ≠ []) : ∀ g, v.ownBlock = some g → g < w.heap.size := by
  obtain ⟨ao, c, rfl, h1, h2, h3, h4⟩ := h
  obtain ⟨g, o, rfl, hc⟩ := h4 0 (List.length_pos_iff.2 hl)
  intro g' e
  cases e
  exact World.block_lt_of_cell? w _ hc

theorem nums_get (l : List Nat) (k : Nat) (hk : k < l.length) : (nums l)[k]? = some (.int .i64 (l.getD k 0 : Nat)) := by
  unfold nums
  rw [List.getElem?_map, List.getElem?_eq_getElem hk, List.getD_eq_getElem?_getD, List.getElem?_eq_getElem hk]
  rfl

theorem nums_one (l : List Nat) : ∀ u ∈ nums l, u.oneCell' = true := by
  intro u hu
  unfold nums at hu
  rw [List.mem_map] at hu
  obtain ⟨x, -, rfl⟩ := hu
  rfl

theorem HoldsN.cells {w : World} {v : Value} {l : List Nat} (h : HoldsN w v l) : HoldsC w v l.length (nums l) := by
  obtain ⟨ao, c, rfl, h1, h2, h3, h4⟩ := h
  refine ⟨ao, c, rfl, h1, h2, fun e => ⟨by have := h3 e; omega, h3 e⟩, fun ad ha j u hj => ?_⟩
  subst ha
  have hjl := (List.getElem?_eq_some_iff.1 hj).1
  rw [nums_len] at hjl
  obtain ⟨g, o, e, e1⟩ := h4 j hjl
  simp only [Option.some.injEq] at e
  subst e
  rw [Addr.add_lit, e1, ← nums_get l j hjl]
  exact hj

theorem holdsN_of_own {w : World} {base m : Nat} {v : Value} {l : List Nat} (hm : m = l.length) (h : w.ownsRow base 3 1 v m (nums l)) : HoldsN w v l := by
  obtain ⟨ao, cap, rfl, h1, h2, -⟩ := own_shape h
  refine ⟨ao, cap, by rw [hm], by omega, h2, ?_, fun k hk => ?_⟩
  · rintro rfl
    rcases h.2 with ⟨hv, _⟩ | ⟨g, c, cur, hv, _⟩
    · simp at hv; exact hv.2
    · simp at hv
  · obtain ⟨g, cap', e, -, -, -, -⟩ := own_some h (by omega)
    simp only [Value.slice.injEq] at e
    obtain ⟨rfl, -, rfl⟩ := e
    have := h.cells rfl k _ (nums_get l k hk)
    rw [Addr.add_lit] at this
    exact ⟨g, 0, rfl, this⟩

/-- An inode's first word. -/
def tagW (n : Ino) : Int := n.format + 256 * n.kind + 65536 * n.links

theorem tag_bits (f k l : Int) (hf : 0 ≤ f ∧ f < 256) (hk : 0 ≤ k ∧ k < 256) (hl : 0 ≤ l ∧ l < 65536) :
    bits .or .u64 (bits .or .u64 f (k * 256)) (l * 65536) = f + 256 * k + 65536 * l := by
  have e1 : bits .or .u64 f (k * 256) = k * 256 + f := by
    rw [← u64_join 8 (k * 256) f (by omega) (by omega) (by omega) hf.1 (by omega) (by omega)]
    rw [u64_or _ _ (by omega) (by omega) (by omega) (by omega), u64_or _ _ (by omega) (by omega) (by omega) (by omega), Nat.or_comm]
  rw [e1]
  have e2 : bits .or .u64 (k * 256 + f) (l * 65536) = l * 65536 + (k * 256 + f) := by
    rw [← u64_join 16 (l * 65536) (k * 256 + f) (by omega) (by omega) (by omega) (by omega) (by omega) (by omega)]
    rw [u64_or _ _ (by omega) (by omega) (by omega) (by omega), u64_or _ _ (by omega) (by omega) (by omega) (by omega), Nat.or_comm]
  rw [e2]
  omega

theorem RightP.small {n : Ino} (h : RightP n) : (0 ≤ n.format ∧ n.format < 256) ∧ (0 ≤ n.kind ∧ n.kind < 256) ∧ (0 ≤ n.links ∧ n.links < 65536) ∧ (0 ≤ n.size ∧ n.size ≤ 832) := by
  obtain ⟨h1, h2, h3, h4⟩ := h
  refine ⟨by omega, by omega, by omega, ?_⟩
  rcases h4 with ⟨-, h⟩ | ⟨-, h⟩
  · exact ⟨h.2.1, h.2.2.1⟩
  · have := h.2.1
    have := h.2.2.1
    omega

set_option maxRecDepth 20000 in
theorem tag_any {w : World} {n : Ino} {ev : Value} (hl : n.bl.length = 13) (hn : (0 ≤ n.format ∧ n.format < 256) ∧ (0 ≤ n.kind ∧ n.kind < 256) ∧ (0 ≤ n.links ∧ n.links < 65536)) :
    Calls Try.prog 90 #[.agg (inoA n ev)] w fun e w' => e = .returned (.int .u64 (tagW n)) ∧ Below w.heap.size w w' := by
  have hb := InoB.new w hl ev
  have c0 := hb.at.c0
  have c1 := hb.at.c1
  have c2 := hb.at.c2
  simp only [Nat.zero_add] at c1 c2
  have htg : tagW n = n.format + 256 * n.kind + 65536 * n.links := rfl
  have HTG := Lib.hid htg
  have HBEL : Hid (Below w.heap.size w (w.alloc (.cells (inoA n ev) 25))) := (Below.refl _ _).alloc (Nat.le_refl _) _
  obtain ⟨⟨a0, a1⟩, ⟨b0, b1⟩, d0, d1⟩ := hn
  generalize tagW n = tg at *
  obtain ⟨fo, hfo⟩ : ∃ fo, fo = n.format := ⟨_, rfl⟩
  obtain ⟨ki, hki⟩ : ∃ ki, ki = n.kind := ⟨_, rfl⟩
  obtain ⟨li, hli⟩ : ∃ li, li = n.links := ⟨_, rfl⟩
  rw [← hfo] at c0 a0 a1 HTG
  rw [← hki] at c1 b0 b1 HTG
  rw [← hli] at c2 d0 d1 HTG
  have hbits := tag_bits fo ki li ⟨a0, a1⟩ ⟨b0, b1⟩ ⟨d0, d1⟩
  have HBITS := Lib.hid hbits
  clear htg hb hfo hki hli hbits
  go_enter Try.func90, Try.ntmps90
  go_wp2_with fail
  go_ret
  refine ⟨?_, HBEL.out⟩
  rw [HTG.out, ← HBITS.out]
  rfl
end Go.Proofs.Ytlopdbhjdijlmaa
