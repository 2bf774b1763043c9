/-
  What the reference's word is where an inode was laid; what Read tells is laid: plain lemmas. The words of a sheet, as a slice: a contract.
-/
import Derived.Test.YtfpnmphmngdkdaaRefWord
namespace Go.Proofs.Ytfpnmphmngdkdaa
open Go.ChangeShapes Go.WideShapes Go.ChangeAt Go.RowKit
set_option linter.unusedSimpArgs false
set_option linter.unusedVariables false

theorem word_inode {T : Sh} {i : Int} (hi : 0 ≤ i ∧ i < 32) {n : Ino} {xs : List Nat} (h : LaidI T i n xs) (k : Nat) (hk : k < 8) : wordAt n (824 + i * 8) xs (824 + i * 8 + (k : Int)) = (T.get (824 + i * 8 + (k : Int)), true) := by
  refine eight (P := fun j => wordAt n (824 + i * 8) xs j = (T.get j, true)) ?_ ?_ (fun q hq => ?_) ?_ k hk
  · unfold wordAt
    rw [if_pos rfl, h.laid.tag]
  · unfold wordAt
    rw [if_neg (by omega), if_pos rfl, h.laid.size]
  · unfold wordAt
    rw [if_neg (by omega), if_neg (by omega), if_pos (by omega), h.laid.num q hq, blOf_take, show (824 + i * 8 + 2 + (q : Int) - (824 + i * 8) - 2).toNat = q by omega]
  · unfold wordAt
    rw [if_neg (by omega), if_neg (by omega), if_neg (by omega), if_pos rfl, h.laid.lis]
    rfl

theorem hitW_none (n : Ino) (own : List Nat) (i : Int) (f : Nat) : ∀ k, (∀ a, k ≤ a → a < k + f → i < 1080 + ((own.getD a 0 : Nat) : Int) * 8 ∨ 1088 + ((own.getD a 0 : Nat) : Int) * 8 ≤ i) → hitW n own i k f = (0, false) := by
  induction f with
  | zero => intro k _; rfl
  | succ f ih =>
    intro k h
    simp only [hitW]
    have := h k (by omega) (by omega)
    rw [if_neg (by omega)]
    exact ih (k + 1) (fun a h1 h2 => h a (by omega) (by omega))

theorem hitW_some (n : Ino) (own : List Nat) (i : Int) (a r : Nat) (hr : r < 8) (hi : i = 1080 + ((own.getD a 0 : Nat) : Int) * 8 + (r : Int)) (f : Nat) : ∀ k, k ≤ a → a < k + f → (∀ b, k ≤ b → b < a → own.getD b 0 ≠ own.getD a 0) → hitW n own i k f = (blkW n own a r, true) := by
  induction f with
  | zero => intro k h1 h2; omega
  | succ f ih =>
    intro k h1 h2 h3
    simp only [hitW]
    by_cases e : k = a
    · subst e
      rw [if_pos (by omega), show (i - 1080 - 8 * ((own.getD k 0 : Nat) : Int)).toNat = r by omega]
    · have := h3 k (by omega) (by omega)
      rw [if_neg (by omega)]
      exact ih (k + 1) (by omega) (by omega) (fun b h4 h5 => h3 b (by omega) h5)

theorem word_block {T : Sh} {i : Int} (hi : 0 ≤ i ∧ i < 32) {n : Ino} {xs : List Nat} (h : LaidI T i n xs) (a : Nat) (ha : a < xs.length) (r : Nat) (hr : r < 8) :
    wordAt n (824 + i * 8) xs (1080 + ((xs.getD a 0 : Nat) : Int) * 8 + (r : Int)) = (T.get (1080 + ((xs.getD a 0 : Nat) : Int) * 8 + (r : Int)), true) := by
  have hm := h.mem _ (getD_in ha)
  have hl := h.len
  have hmo := more1_le n
  unfold wordAt
  rw [if_neg (by omega), if_neg (by omega), if_neg (by omega), if_neg (by omega), hitW_some n xs _ a r hr rfl xs.length 0 (by omega) (by omega) (fun b _ hb => h.pair b a hb ha)]
  unfold blkW
  by_cases e : a = need1 n
  · rw [if_pos e]
    obtain ⟨-, -, h3, -⟩ := h.list
    obtain ⟨e1, -, hp⟩ := h3 (by omega)
    have := h.laid.lst (by omega) r hr
    rw [e1, blOf_take, ← e] at this
    rw [this]
  · rw [if_neg e]
    have := h.laid.ent a (by omega) r hr
    rw [take_getD _ _ _ (by omega)] at this
    rw [this]

theorem word_out {T : Sh} {i : Int} (hi : 0 ≤ i ∧ i < 32) {n : Ino} {xs : List Nat} (j : Int) (h1 : j < 824 + i * 8 ∨ 832 + i * 8 ≤ j) (h2 : ∀ x ∈ xs, j < 1080 + (x : Int) * 8 ∨ 1088 + (x : Int) * 8 ≤ j) : wordAt n (824 + i * 8) xs j = (0, false) := by
  unfold wordAt
  rw [if_neg (by omega), if_neg (by omega), if_neg (by omega), if_neg (by omega)]
  exact hitW_none n xs j _ 0 (fun a _ ha => h2 _ (getD_in (by omega)))

theorem namesTo_pos {S : Sh} (l : List Int) : ∀ (m : Nat) out own, namesTo S l m = some (out, own) → ∀ b ∈ own, 1 ≤ b := by
  intro m
  induction m with
  | zero =>
    intro out own e
    simp only [namesTo, Option.some.injEq, Prod.mk.injEq] at e
    obtain ⟨rfl, rfl⟩ := e
    intro b hb; cases hb
  | succ m ih =>
    intro out own e
    simp only [namesTo] at e
    cases hr : namesTo S l m with
    | none => rw [hr] at e; cases e
    | some r =>
      obtain ⟨o1, w1⟩ := r
      rw [hr] at e
      have i1 := ih o1 w1 hr
      simp only [Option.bind_some] at e
      unfold namesStep at e
      split at e
      · cases e
      · rename_i hb1
        split at e
        · simp only [Option.some.injEq, Prod.mk.injEq] at e
          obtain ⟨rfl, rfl⟩ := e
          intro b hb
          split at hb
          · rcases List.mem_append.1 hb with h1 | h1
            · exact i1 b h1
            · rw [List.mem_singleton] at h1
              omega
          · exact i1 b hb
        · cases e

theorem allOf_take (own : List Nat) (li : Int) : (allOf own li).take own.length = own := by
  unfold allOf
  split
  · rw [List.take_append_of_le_length (Nat.le_refl _), List.take_length]
  · exact List.take_length

theorem finR_some {S : Sh} {i : Int} (hi : 0 ≤ i ∧ i < 32) {m m' : Ino} {own xs : List Nat} {li : Int} (hli : 0 ≤ li ∧ li < 256) (hl : m.bl.length = 13) (hown : ∀ b ∈ own, 1 ≤ b ∧ b < 256) (hneed : RightP m → own.length = need1 m)
    (h : finR S (824 + i * 8) m own li = some (m', xs)) : m' = m ∧ RightP m ∧ LaidI S i m xs := by
  unfold finR at h
  split at h
  · rename_i hc
    obtain ⟨hr, hap, hex⟩ := hc
    simp only [Option.some.injEq, Prod.mk.injEq] at h
    obtain ⟨rfl, rfl⟩ := h
    have hon := hneed hr
    have hA := (apartB_iff _).1 hap
    have hlen : own.length ≤ (allOf own li).length := by
      have := congrArg List.length (allOf_take own li)
      rw [List.length_take] at this
      omega
    have hget : ∀ a, a < own.length → (allOf own li).getD a 0 = own.getD a 0 := fun a ha => by
      have := take_getD (allOf own li) own.length a ha
      rw [allOf_take] at this
      exact this.symm
    have ho : OwnOK own (need1 m) := by
      refine ⟨fun a ha => (hown _ (getD_in (by omega))).2, fun a b hab hb => ?_⟩
      have := hA a b hab (by omega)
      rw [hget a (by omega), hget b (by omega)] at this
      exact this
    have hpos : ∀ a, a < need1 m → 1 ≤ own.getD a 0 := fun a ha => (hown _ (getD_in (by omega))).1
    have hne : ∀ a, a < need1 m → li ≠ 0 → ((own.getD a 0 : Nat) : Int) ≠ li := by
      intro a ha h0
      have e : allOf own li = own ++ [li.toNat] := by unfold allOf; rw [if_pos (by omega)]
      have := hA a own.length (by omega) (by rw [e]; simp)
      rw [hget a (by omega), e, List.getD_eq_getElem?_getD (l := own ++ [li.toNat]), List.getElem?_append_right (Nat.le_refl _), Nat.sub_self] at this
      simp only [List.getElem?_cons_zero, Option.getD_some] at this
      omega
    obtain ⟨hQ, hlong⟩ := (exactP_iff S (at_ := 824 + i * 8) (by omega) m own hli hon ho hne).1 hex
    rw [longP_blOf hr hl (by omega) hpos, ← more1_one] at hlong
    have hmo := more1_le m
    have htk : (allOf own li).take (need1 m) = own := by rw [← hon]; exact allOf_take own li
    have hlist : listOf (allOf own li) (need1 m) (more1 m) = li := by
      unfold listOf
      by_cases hm : more1 m = 1
      · rw [if_pos hm]
        have h0 := hlong.2 hm
        have e : allOf own li = own ++ [li.toNat] := by unfold allOf; rw [if_pos (by omega)]
        rw [e, ← hon, List.getD_eq_getElem?_getD, List.getElem?_append_right (Nat.le_refl _), Nat.sub_self]
        simp only [List.getElem?_cons_zero, Option.getD_some]
        omega
      · rw [if_neg hm]
        by_cases h0 : li = 0
        · exact h0.symm
        · exact absurd (hlong.1 h0) hm
    refine ⟨rfl, hr, ⟨by rw [htk, hlist]; exact hQ, ?_, ?_, hA⟩⟩
    · unfold allOf
      split
      · rename_i h0
        rw [List.length_append, List.length_singleton, hlong.1 (by omega), hon]
      · rename_i h0
        have : more1 m ≠ 1 := fun hm => by have := hlong.2 hm; omega
        omega
    · intro x hx
      unfold allOf at hx
      split at hx
      · rcases List.mem_append.1 hx with h1 | h1
        · exact hown x h1
        · rw [List.mem_singleton] at h1
          omega
      · exact hown x hx
  · cases h

/-- What Read tells is right, and lies there. -/
theorem rd1_some {S : Sh} (hS : S.Ok) {i : Int} {m : Ino} {xs : List Nat} (h : rd1 S i = some (m, xs)) : (0 ≤ i ∧ i < 32) ∧ m.Ok ∧ RightP m ∧ m.format = 1 ∧ LaidI S i m xs := by
  unfold rd1 at h
  split at h
  · cases h
  · rename_i hi
    have hi' : 0 ≤ i ∧ i < 32 := by omega
    have hl := readL_range hS (824 + i * 8)
    have hn := readN_ok hS (824 + i * 8)
    unfold rdAt at h
    split at h
    · cases h
    · rename_i hb
      have hli : 0 ≤ readL S (824 + i * 8) ∧ readL S (824 + i * 8) < 256 := by omega
      have hf : (readN S (824 + i * 8)).format = 1 := by omega
      split at h
      · rename_i hk
        cases hnm : namesTo S (readN S (824 + i * 8)).bl (min (readN S (824 + i * 8)).size.toNat 24) with
        | none => rw [hnm] at h; cases h
        | some r =>
          obtain ⟨out, own⟩ := r
          rw [hnm, Option.bind_some] at h
          obtain ⟨n1, n2, n3, n4⟩ := namesTo_law hS _ (fun k hk => (readN_bl hS _ k hk).2) _ (by omega) _ _ hnm
          have n5 := namesTo_pos _ _ _ _ hnm
          obtain ⟨rfl, hr, hL⟩ := finR_some hi' hli zbl_len (fun b hb => ⟨n5 b hb, n3 b hb⟩) (fun _ => by unfold need1; dsimp only; omega) h
          exact ⟨hi', readN_z hS _ n4, hr, hf, hL⟩
      · obtain ⟨rfl, hr, hL⟩ := finR_some hi' hli hn.len (fun b hb => by cases hb) (fun hr => by
          rcases hr.2.2.2 with ⟨-, h2⟩ | ⟨h2, -⟩
          · unfold need1; rw [h2.2.2.2]; rfl
          · omega) h
        exact ⟨hi', hn, hr, hf, hL⟩

/-- The words, and a row of them. -/
def rowN (n : Nat) (f : Nat → Int) : List Int := (List.range n).map f
theorem rowN_length (n : Nat) (f : Nat → Int) : (rowN n f).length = n := by simp [rowN]
theorem rowN_get (n : Nat) (f : Nat → Int) (j : Nat) (hj : j < n) : (rowN n f)[j]? = some (f j) := by
  unfold rowN
  rw [List.getElem?_map, List.getElem?_range hj]
  rfl

theorem holds_rowN {w : World} {B c : Nat} {f : Nat → Int} (h : Words w B c f) : HoldsU w (.slice (some ⟨B, 0, none⟩) 3128 c) (rowN 3128 f) := by
  refine ⟨some ⟨B, 0, none⟩, c, by rw [rowN_length], (by intro h; cases h), ?_, ?_, ?_⟩
  · rw [rowN_length]; obtain ⟨_, _, _, h3, _⟩ := h; exact h3
  · obtain ⟨_, _, _, _, h4, _⟩ := h; exact h4
  · intro ad had j u hj
    cases had
    have hlt : j < 3128 := by
      have := (List.getElem?_eq_some_iff.1 hj).1
      simpa [u64s, rowN_length] using this
    have hadd : (⟨B, 0, none⟩ : Addr).add j = ⟨B, j, none⟩ := by unfold Addr.add; split <;> simp_all
    rw [hadd, h.cell j hlt, ← hj]
    unfold u64s
    rw [List.getElem?_map, rowN_get _ _ _ hlt]
    rfl

theorem sheet_words {w : World} {p : Nat} {D : Nat → Prop} {S : Sh} (h : SheetAt w p D S) :
    Calls Try.prog 30 #[.pointer (some ⟨p, 0, none⟩)] w fun e w' => ∃ g c, e = .returned (.slice (some ⟨g, 0, none⟩) 3128 c) ∧ (3128 ≤ c ∧ c ≤ maxLen) ∧ (∀ j, j < 3128 → w'.cell? ⟨g, j, none⟩ = some (.int .u64 (S.get (j : Int)))) ∧ Below w.heap.size w w' := by
  obtain ⟨pb, nb, cb, cn, wv, h⟩ := h
  have hc1 : w.cell? ⟨p, 1, none⟩ = some (.slice (some ⟨nb, 0, none⟩) 3128 cn) := by rw [cell_of_row _ _ _ _ _ _ h.head]; rfl
  have hcl := clone_u64 (holds_rowN h.now) (by rw [rowN_length]; omega)
  rw [rowN_length] at hcl
  have HCL := Lib.hid hcl
  clear h hcl
  go_enter Try.func30, Try.ntmps30
  go_wp2_with (go_at_call 90; refine HCL.out.mono ?_; rintro e w1 ⟨v', rfl, hown, hb⟩)
  obtain ⟨g, cap, rfl, h1, h2, h3, h4⟩ := own_some hown (by omega)
  go_ret
  refine ⟨g, cap, rfl, ?_, fun j hj => ?_, hb⟩
  · obtain ⟨ao, c, e, h5, h6, -⟩ := own_shape hown
    simp only [Value.slice.injEq] at e
    obtain ⟨-, -, rfl⟩ := e
    exact ⟨h5, h6⟩
  · have := hown.cells rfl j (.int .u64 (S.now j)) (by unfold u64s; rw [List.getElem?_map, rowN_get _ _ _ hj]; rfl)
    rw [Addr.add_lit, Nat.zero_add] at this
    rw [this, get_natx S j hj]
end Go.Proofs.Ytfpnmphmngdkdaa
