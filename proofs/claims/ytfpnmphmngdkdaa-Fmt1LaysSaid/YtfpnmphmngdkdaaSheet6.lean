/-
  imagolaw06.Sheet: a sheet of noughts and four words of bits: a contract. No condition but the words' bounds.
-/
import Derived.Test.YtfpnmphmngdkdaaLayTake
namespace Go.Proofs.Ytfpnmphmngdkdaa
open Go.ChangeShapes Go.WideShapes Go.ChangeAt Go.RowKit
set_option linter.unusedSimpArgs false
set_option linter.unusedVariables false

/-- Words of which four are given. -/
def row5 (f : Nat → Int) : List Int := (List.range 3128).map f

def part5 (a : Nat → Int) (i : Nat) (k : Nat) : Int := if 816 ≤ k ∧ k < 816 + i then a (k - 816) else 0
def part5' (a : Nat → Int) (i : Nat) (k : Nat) : Int := if 816 ≤ k ∧ k < 820 then a (k - 816) else if 1080 ≤ k ∧ k < i then 1 else 0

theorem part5_succ (a : Nat → Int) (k : Nat) (hk : k < 4) : upd (part5 a k) (816 + k) (a k) = part5 a (k + 1) := by
  funext j
  simp only [upd, part5]
  by_cases e : j = 816 + k
  · subst e
    rw [if_pos rfl, if_pos (by omega), Nat.add_sub_cancel_left]
  · rw [if_neg e]
    by_cases h : 816 ≤ j ∧ j < 816 + k
    · rw [if_pos h, if_pos (by omega)]
    · rw [if_neg h, if_neg (by omega)]

theorem row5_length (f : Nat → Int) : (row5 f).length = 3128 := by simp [row5]
theorem row5_get (f : Nat → Int) (j : Nat) (hj : j < 3128) : (row5 f)[j]? = some (f j) := by
  unfold row5
  rw [List.getElem?_map, List.getElem?_range hj]
  rfl

theorem holds_words {w : World} {B : Nat} {f g : Nat → Int} (h : Words w B 3128 f) (he : ∀ j, j < 3128 → f j = g j) : HoldsU w (.slice (some ⟨B, 0, none⟩) 3128 3128) (row5 g) := by
  refine ⟨some ⟨B, 0, none⟩, 3128, by rw [row5_length], (by intro h; cases h), by rw [row5_length]; omega, by unfold maxLen; omega, ?_⟩
  intro ad had j u hj
  cases had
  have hlt : j < 3128 := by
    have := (List.getElem?_eq_some_iff.1 hj).1
    simpa [u64s, row5_length] using this
  have hadd : (⟨B, 0, none⟩ : Addr).add j = ⟨B, j, none⟩ := by unfold Addr.add; split <;> simp_all
  rw [hadd, h.cell j hlt, he j hlt, ← hj]
  unfold u64s
  rw [List.getElem?_map, row5_get _ _ hlt]
  rfl

def row6 (a : Nat → Int) : List Int := row5 (part5 a 4)
def S6 (a : Nat → Int) : Sh := Sh.new (row6 a)

set_option maxRecDepth 20000 in
theorem sheet6_any {w : World} (a : Nat → Int) (ha : ∀ i, 0 ≤ a i ∧ a i < 18446744073709551616) :
    Calls Try.prog 23 #[.agg #[.int .u64 (a 0), .int .u64 (a 1), .int .u64 (a 2), .int .u64 (a 3)]] w fun e w' => ∃ p, e = .returned (.pointer (some ⟨p, 0, none⟩)) ∧ SheetAt w' p (grow nob w w') (Sh.new (row6 a)) ∧ Below w.heap.size w w' := by
  obtain ⟨i0, hi0, hz0, hz1, hz2⟩ := info_parts Try.infoU64
  have HWF : Hid (∀ z ∈ row6 a, 0 ≤ z ∧ z < 18446744073709551616) := by
    intro z hz
    obtain ⟨k, _, rfl⟩ := List.mem_map.1 hz
    unfold part5
    have := ha (k - 816)
    split
    · exact this
    · omega
  clear ha
  go_enter Try.func23, Try.ntmps23
  go_wp2_with (at_make; refine wpList_make_full _ rfl _ _ 53 rfl w.heap.size 41 i0 (.int .u64 0) 1 Try.underlying53 hi0 hz0 hz1 .i64 .i64 3128 3128 3128 rfl rfl rfl rfl (by rw [hz2]; omega) (by unfold maxLen; omega) (by simp) ?_)
  intro w1 hown1 hgr1
  go_wp2
  have hh := made_block hown1
  obtain ⟨B, hB⟩ : ∃ B, B = w.heap.size + 1 := ⟨_, rfl⟩
  obtain ⟨A, hA⟩ : ∃ A, A = w.heap.size := ⟨_, rfl⟩
  have hb0 : Below w.heap.size w w1 := ((Below.refl _ _).alloc (Nat.le_refl _) _).grown hgr1 (by simp) (by intro k hk; cases hk)
  have hbox : ∀ j, w1.cell? ⟨A, j, none⟩ = (#[Value.int .u64 (a 0), .int .u64 (a 1), .int .u64 (a 2), .int .u64 (a 3)] : Array Value)[j]? := fun j => by
    rw [hA, World.cell?_of_block (hgr1.block _ (by simp) (by intro h; cases h))]
    exact boxed_new w _ _ _ j
  rw [← hB] at hh
  have HW0 : Hid (Words w1 B 3128 (part5 a 0)) := ⟨_, hh, by simp [zeroRow], by omega, by unfold maxLen; omega, fun i hi => by
    simp only [part5]
    rw [if_neg (by omega)]
    have := zeroRow_get 3128 i hi
    simpa using this⟩
  have HB0 := Lib.hid hb0
  have HX0 := Lib.hid hbox
  have hAB : A ≠ B := by omega
  have HA := Lib.hid hA
  have HB := Lib.hid hB
  rw [← hB, ← hA]
  clear hown1 hgr1 hh hb0 hbox hA hB
  go_wp2
  go_loopg [4] 4 (fun g i wr => ∃ k : Nat, k + g = 4 ∧ i = .int .i64 k ∧ Hid (Words wr B 3128 (part5 a k)) ∧ Hid (∀ j, wr.cell? ⟨A, j, none⟩ = (#[Value.int .u64 (a 0), .int .u64 (a 1), .int .u64 (a 2), .int .u64 (a 3)] : Array Value)[j]?) ∧ Hid (Below w.heap.size w wr))
  case atStart => exact ⟨0, by omega, rfl, HW0, HX0, HB0⟩
  case round =>
    obtain ⟨k, hk, rfl, HW, HX, HBL⟩ := hrel
    by_cases hlt : k < 4
    · have hc : wr.cell? ⟨A, k, none⟩ = some (.int .u64 (a k)) := by
        rw [HX.out k]
        rcases (show k = 0 ∨ k = 1 ∨ k = 2 ∨ k = 3 by omega) with rfl | rfl | rfl | rfl <;> rfl
      have hd := HW.out.cell (816 + k) (by omega)
      have hf := HW.out.frozen (816 + k)
      go_wp2
      go_roundg (gk - 1)
      case measure => omega
      case rel =>
        refine ⟨k + 1, by omega, (by simp), ?_, ?_, ?_⟩
        · unfold Hid; rw [← part5_succ a k hlt]; exact HW.out.set _ _
        · intro j; rw [World.cell?_of_block (Below.heap_setCell _ _ _ _ (by simpa using hAB))]; exact HX.out j
        · exact HBL.out.setCell (by have := HB.out; show _ ≤ B; omega) _
    · obtain rfl : k = 4 := by omega
      go_wp2_with (go_at_call 70; refine (tx_new (holds_words HW.out (fun _ _ => rfl)) HWF.out).mono ?_; rintro e w2 ⟨p, rfl, hs, hb⟩)
      go_ret
      exact ⟨p, rfl, hs.mono (fun b h => by rcases h with h | h; exact h.elim; exact .inr ⟨by have := HBL.out.size; omega, h.2⟩) (fun b h => by rcases h with h | h; exact h.elim; exact h.2), HBL.out.trans (hb.mono HBL.out.size)⟩

theorem S6_now (a : Nat → Int) (k : Nat) (hk : k < 3128) : (S6 a).now k = part5 a 4 k := by
  unfold S6 row6
  simp only [Sh.new]
  rw [if_pos hk, List.getD_eq_getElem?_getD, row5_get _ _ hk]
  rfl
theorem S6_was (a : Nat → Int) : (S6 a).was.length = 0 := rfl

/-- No bit is set where the words are noughts. -/
theorem S6_bit0 (a : Nat → Int) (h : ∀ i, a i = 0) (b : Nat) (hb : b < 256) : bitB (S6 a) b = false := by
  unfold bitB
  rw [S6_now a _ (by omega)]
  have : part5 a 4 (816 + b / 64) = 0 := by
    unfold part5
    split
    · exact h _
    · rfl
  rw [this]
  simp

theorem freeFrom_all (S : Sh) (f : Nat) : ∀ b, (∀ c, b ≤ c → c < b + f → bitB S c = false) → freeFrom S b f = f := by
  induction f with
  | zero => intro b _; rfl
  | succ f ih =>
    intro b h
    simp only [freeFrom]
    rw [if_pos (h b (by omega) (by omega)), ih (b + 1) (fun c h1 h2 => h c (by omega) (by omega))]
    omega

theorem S6_free0 (a : Nat → Int) (h : ∀ i, a i = 0) : freeN (S6 a) = 255 := by
  rw [freeN_from]
  exact freeFrom_all _ _ _ (fun c h1 h2 => S6_bit0 a h c (by omega))

/-- How many are free behind Lay. -/
theorem lay1S_free (S : Sh) (i : Int) (hi : 0 ≤ i ∧ i < 32) (n : Ino) (hr : RightP n) (hfree : need1 n + more1 n ≤ freeN S) : freeN (lay1S S i n) + (need1 n + more1 n) = freeN S := by
  have ht := tookN S _ hfree
  have e1 : freeFrom (lay1S S i n) 1 255 = freeFrom (takeFrom 255 S 1 (need1 n + more1 n)).1 1 255 := freeFrom_congr _ _ 255 1 (fun c h1 h2 => by
    rw [lay1S_bits S i hi n hr hfree c (by omega)]
    exact (ht.bits c (by omega)).symm)
  rw [freeN_from] at hfree
  have hl := (takeFrom_law 255 S 1 (need1 n + more1 n) (by omega) (by omega) hfree).2.2.2.2.1
  have e2 := freeN_from (lay1S S i n)
  have e3 := freeN_from S
  rw [e2, e3, e1]
  exact hl

theorem need_le {n : Ino} (hr : RightP n) : need1 n + more1 n ≤ 7 := by
  have := need1_le hr
  have := more1_le n
  omega

theorem lay1S_ok (S : Sh) (h : S.Ok) (i : Int) (hi : 0 ≤ i ∧ i < 32) (n : Ino) (hr : RightP n) (hl : n.bl.length = 13) (hfree : need1 n + more1 n ≤ freeN S) : (lay1S S i n).was.length ≤ S.was.length + 2400 := by
  have ht := tookN S _ hfree
  have e1 : (lay1T S n).1.was.length ≤ S.was.length + 2295 := ht.was
  have hpw := Sh.put_was_le
  have hnum : ∀ (T : Sh) (at_ : Int) (l : List Int) (list : Int) (m : Nat), (numbersTo T at_ l list m).was.length ≤ T.was.length + m := by
    intro T at_ l list m
    induction m with
    | zero => simp [numbersTo]
    | succ m ih =>
      simp only [numbersTo]
      have := numberAt_was (numbersTo T at_ l list m) at_ list m (l.getD m 0)
      omega
  have hent : ∀ (T : Sh) (own : List Nat) (l : List En) (m : Nat), (entriesTo T own l m).was.length ≤ T.was.length + 2 * m := by
    intro T own l m
    induction m with
    | zero => simp [entriesTo]
    | succ m ih =>
      simp only [entriesTo]
      have := entryAt_was (entriesTo T own l m) own m (l.getD m default)
      omega
  have h24 := hr.ents
  unfold lay1S lay1P entriesS numbersS
  refine Nat.le_trans (hent _ _ _ _) ?_
  have h1 := hpw (numbersTo (((lay1T S n).1.put (824 + i * 8) (tagW n)).put (824 + i * 8 + 1) n.size) (824 + i * 8) (blOf n (lay1T S n).2) (listOf (lay1T S n).2 (need1 n) (more1 n)) 13) (824 + i * 8 + 7) (listOf (lay1T S n).2 (need1 n) (more1 n))
  have h2 := hnum (((lay1T S n).1.put (824 + i * 8) (tagW n)).put (824 + i * 8 + 1) n.size) (824 + i * 8) (blOf n (lay1T S n).2) (listOf (lay1T S n).2 (need1 n) (more1 n)) 13
  have h3 := hpw ((lay1T S n).1.put (824 + i * 8) (tagW n)) (824 + i * 8 + 1) n.size
  have h4 := hpw (lay1T S n).1 (824 + i * 8) (tagW n)
  omega
end Go.Proofs.Ytfpnmphmngdkdaa
