/-
  What blocks are taken and what their words are then; an inode that was laid is read again, also behind another: plain lemmas.
-/
import Derived.Test.YtfpnmphmngdkdaaLayGet
namespace Go.Proofs.Ytfpnmphmngdkdaa
set_option linter.unusedSimpArgs false
set_option linter.unusedVariables false

theorem get_natx (S : Sh) (k : Nat) (h : k < 3128) : S.get (k : Int) = S.now k := by
  unfold Sh.get
  rw [if_pos (by omega), Int.toNat_natCast]

theorem now_takeB (S : Sh) (b : Nat) (hb : b < 256) (k : Nat) (hk : k < 816 ∨ 820 ≤ k) : (takeB S b).now k = if 1080 + b * 8 ≤ k ∧ k < 1088 + b * 8 then 0 else S.now k := by
  unfold takeB cleanB
  rw [now_cleanTo _ b hb 8 (Nat.le_refl _), now_setB S b hb true k hk, show 1088 + b * 8 = 1080 + b * 8 + 8 by omega]

/-- The blocks that are free, rising. -/
def freeL (S : Sh) : Nat → Nat → List Nat
  | _, 0 => []
  | b, f + 1 => if bitB S b = true then freeL S (b + 1) f else b :: freeL S (b + 1) f

theorem freeL_congr (S T : Sh) (f : Nat) : ∀ b, (∀ c, b ≤ c → c < b + f → bitB T c = bitB S c) → freeL T b f = freeL S b f := by
  induction f with
  | zero => intro b _; rfl
  | succ f ih =>
    intro b h
    simp only [freeL]
    rw [h b (by omega) (by omega), ih (b + 1) (fun c h1 h2 => h c (by omega) (by omega))]
theorem freeL_len (S : Sh) (f : Nat) : ∀ b, (freeL S b f).length = freeFrom S b f := by
  induction f with
  | zero => intro b; rfl
  | succ f ih =>
    intro b
    simp only [freeL, freeFrom]
    cases h : bitB S b
    · simp [ih]; omega
    · simp [ih]
theorem freeL_mem (S : Sh) (f : Nat) : ∀ b, ∀ x ∈ freeL S b f, b ≤ x ∧ x < b + f ∧ bitB S x = false := by
  induction f with
  | zero => intro b x hx; cases hx
  | succ f ih =>
    intro b x hx
    simp only [freeL] at hx
    split at hx
    · have := ih (b + 1) x hx
      exact ⟨by omega, by omega, this.2.2⟩
    · rename_i h
      rcases List.mem_cons.1 hx with rfl | hx
      · exact ⟨by omega, by omega, by simpa using h⟩
      · have := ih (b + 1) x hx
        exact ⟨by omega, by omega, this.2.2⟩
theorem freeL_pair (S : Sh) (f : Nat) : ∀ b, (freeL S b f).Pairwise (· < ·) := by
  induction f with
  | zero => intro b; exact List.Pairwise.nil
  | succ f ih =>
    intro b
    simp only [freeL]
    split
    · exact ih (b + 1)
    · exact List.pairwise_cons.2 ⟨fun x hx => by have := (freeL_mem S f (b + 1) x hx).1; omega, ih (b + 1)⟩

/-- The blocks taken are the first free ones; their words are noughts; all words but theirs and the bits stay. -/
theorem takeFrom_more (f : Nat) : ∀ (S : Sh) (b n : Nat), 1 ≤ b → b + f ≤ 256 →
    (takeFrom f S b n).2 = (freeL S b f).take n ∧
    (∀ k, (k < 816 ∨ 820 ≤ k) → (takeFrom f S b n).1.now k = if ∃ x ∈ (takeFrom f S b n).2, 1080 + x * 8 ≤ k ∧ k < 1088 + x * 8 then 0 else S.now k) := by
  induction f with
  | zero =>
    intro S b n hb hf
    cases n <;> simp [takeFrom, freeL]
  | succ f ih =>
    intro S b n hb hf
    by_cases h0 : n = 0
    · subst h0
      rw [takeFrom_zero]
      simp
    · cases hbit : bitB S b with
      | true =>
        rw [takeFrom_used hbit (by omega)]
        obtain ⟨i1, i2⟩ := ih S (b + 1) n (by omega) (by omega)
        refine ⟨?_, i2⟩
        rw [i1]
        simp only [freeL]
        rw [if_pos hbit]
      | false =>
        rw [takeFrom_free hbit (by omega)]
        obtain ⟨i1, i2⟩ := ih (takeB S b) (b + 1) (n - 1) (by omega) (by omega)
        have hc : freeL (takeB S b) (b + 1) f = freeL S (b + 1) f := freeL_congr _ _ _ _ (fun c h1 h2 => by rw [bit_takeB S b (by omega) hb c (by omega), if_neg (by omega)])
        refine ⟨?_, fun k hk => ?_⟩
        · dsimp only
          rw [i1, hc]
          simp only [freeL]
          rw [if_neg (by simp [hbit])]
          obtain ⟨m, rfl⟩ : ∃ m, n = m + 1 := ⟨n - 1, by omega⟩
          rfl
        · dsimp only
          rw [i2 k hk, now_takeB S b (by omega) k hk]
          by_cases hx : ∃ x ∈ (takeFrom f (takeB S b) (b + 1) (n - 1)).2, 1080 + x * 8 ≤ k ∧ k < 1088 + x * 8
          · rw [if_pos hx, if_pos (by obtain ⟨x, h1, h2⟩ := hx; exact ⟨x, List.mem_cons_of_mem _ h1, h2⟩)]
          · rw [if_neg hx]
            by_cases hbk : 1080 + b * 8 ≤ k ∧ k < 1088 + b * 8
            · rw [if_pos hbk, if_pos ⟨b, List.mem_cons_self .., hbk⟩]
            · rw [if_neg hbk, if_neg (by
                rintro ⟨x, h1, h2⟩
                rcases List.mem_cons.1 h1 with rfl | h1
                · exact hbk h2
                · exact hx ⟨x, h1, h2⟩)]

theorem pair_take {l : List Nat} (h : l.Pairwise (· < ·)) (n : Nat) : (l.take n).Pairwise (· < ·) := h.sublist (List.take_sublist n l)
theorem pair_get {l : List Nat} (h : l.Pairwise (· < ·)) (a b : Nat) (hab : a < b) (hb : b < l.length) : l.getD a 0 < l.getD b 0 := by
  have := List.pairwise_iff_getElem.1 h a b (by omega) hb hab
  rw [List.getD_eq_getElem?_getD, List.getElem?_eq_getElem (by omega), List.getD_eq_getElem?_getD, List.getElem?_eq_getElem hb]
  exact this
theorem getD_in {l : List Nat} {a : Nat} (h : a < l.length) : l.getD a 0 ∈ l := by
  rw [List.getD_eq_getElem?_getD, List.getElem?_eq_getElem h]
  exact List.getElem_mem h

/-- All that is told of the blocks that Lay takes. -/
structure TookN (S T : Sh) (xs : List Nat) (n : Nat) : Prop where
  len : xs.length = n
  mem : ∀ x ∈ xs, 1 ≤ x ∧ x < 256 ∧ bitB S x = false
  pair : xs.Pairwise (· < ·)
  bits : ∀ c, c < 256 → bitB T c = (bitB S c || decide (c ∈ xs))
  zero : ∀ x ∈ xs, ∀ r : Nat, r < 8 → T.get (1080 + (x : Int) * 8 + (r : Int)) = 0
  out : ∀ j : Int, 820 ≤ j → (∀ x ∈ xs, j < 1080 + (x : Int) * 8 ∨ 1088 + (x : Int) * 8 ≤ j) → T.get j = S.get j
  free : xs = (freeL S 1 255).take n
  ok : S.Ok → T.Ok
  was : T.was.length ≤ S.was.length + 2295

theorem takeFrom_ok (f : Nat) : ∀ (S : Sh) (b n : Nat), S.Ok → (takeFrom f S b n).1.Ok := by
  induction f with
  | zero => intro S b n h; cases n <;> exact h
  | succ f ih =>
    intro S b n h
    cases n with
    | zero => exact h
    | succ n =>
      simp only [takeFrom]
      split
      · exact ih S _ _ h
      · exact ih _ _ _ (takeB_ok h b)

theorem tookN (S : Sh) (n : Nat) (hn : n ≤ freeN S) : TookN S (takeFrom 255 S 1 n).1 (takeFrom 255 S 1 n).2 n := by
  rw [freeN_from] at hn
  obtain ⟨h1, h2, h3, -, -, h6⟩ := takeFrom_law 255 S 1 n (by omega) (by omega) hn
  obtain ⟨m1, m2⟩ := takeFrom_more 255 S 1 n (by omega) (by omega)
  refine ⟨h1, fun x hx => ?_, ?_, h3, fun x hx r hr => ?_, fun j hj hx => ?_, m1, fun ho => takeFrom_ok 255 S 1 n ho, by omega⟩
  · have := h2 x hx
    exact ⟨this.1, by omega, this.2.2⟩
  · rw [m1]
    exact pair_take (freeL_pair S 255 1) n
  · have := h2 x hx
    have e : (1080 + (x : Int) * 8 + (r : Int)) = ((1080 + x * 8 + r : Nat) : Int) := by omega
    rw [e, get_natx _ _ (by omega), m2 _ (by omega), if_pos ⟨x, hx, by omega, by omega⟩]
  · by_cases hlt : j < 3128
    · have e : j = ((j.toNat : Nat) : Int) := by omega
      rw [e, get_natx _ _ (by omega), get_natx _ _ (by omega), m2 _ (by omega), if_neg (by
        rintro ⟨x, h1, h2⟩
        have := hx x h1
        omega)]
    · unfold Sh.get
      rw [if_neg (by omega), if_neg (by omega)]

/-- What Lay's sheet is, and its blocks. -/
noncomputable def layX (S : Sh) (n : Ino) : List Nat := (lay1T S n).2
noncomputable def layL (S : Sh) (n : Ino) : Int := listOf (layX S n) (need1 n) (more1 n)
noncomputable def layO (S : Sh) (n : Ino) : List Nat := (layX S n).take (need1 n)

theorem LaidQ.own {T : Sh} {at_ : Int} {n : Ino} {own own' : List Nat} {list : Int} (h : LaidQ T at_ n own list) (ho : ∀ a, a < need1 n → own'.getD a 0 = own.getD a 0) (hb : blOf n own' = blOf n own) : LaidQ T at_ n own' list :=
  ⟨h.tag, h.size, fun k hk => by rw [hb]; exact h.num k hk, h.lis, fun a ha r hr => by rw [ho a ha]; exact h.ent a ha r hr, fun h0 w hw => by rw [hb]; exact h.lst h0 w hw⟩

theorem LaidQ.congr {T T' : Sh} {at_ : Int} {n : Ino} {own : List Nat} {list : Int} (h : LaidQ T at_ n own list) (h1 : ∀ k : Nat, k < 8 → T'.get (at_ + (k : Int)) = T.get (at_ + (k : Int)))
    (h2 : ∀ a, a < need1 n → ∀ r : Nat, r < 8 → T'.get (1080 + ((own.getD a 0 : Nat) : Int) * 8 + (r : Int)) = T.get (1080 + ((own.getD a 0 : Nat) : Int) * 8 + (r : Int)))
    (h3 : list ≠ 0 → ∀ w : Nat, w < 8 → T'.get (1080 + list * 8 + (w : Int)) = T.get (1080 + list * 8 + (w : Int))) : LaidQ T' at_ n own list := by
  refine ⟨?_, ?_, fun k hk => ?_, ?_, fun a ha r hr => ?_, fun h0 w hw => ?_⟩
  · have := h1 0 (by omega)
    rw [show at_ + ((0 : Nat) : Int) = at_ by omega] at this
    rw [this, h.tag]
  · exact (h1 1 (by omega)).trans h.size
  · have := h1 (k + 2) (by omega)
    rw [show at_ + ((k + 2 : Nat) : Int) = at_ + 2 + (k : Int) by omega] at this
    rw [this, h.num k hk]
  · exact (h1 7 (by omega)).trans h.lis
  · rw [h2 a ha r hr, h.ent a ha r hr]
  · rw [h3 h0 w hw, h.lst h0 w hw]

/-- The facts of an inode that was laid. -/
structure LaidI (T : Sh) (i : Int) (n : Ino) (xs : List Nat) : Prop where
  laid : LaidQ T (824 + i * 8) n (xs.take (need1 n)) (listOf xs (need1 n) (more1 n))
  len : xs.length = need1 n + more1 n
  mem : ∀ x ∈ xs, 1 ≤ x ∧ x < 256
  pair : ApartTo xs xs.length

theorem apartTo_pair {l : List Nat} (h : l.Pairwise (· < ·)) : ApartTo l l.length := fun i j hij hj => by
  have := pair_get h i j hij hj
  omega

theorem take_getD (xs : List Nat) (q a : Nat) (h : a < q) : (xs.take q).getD a 0 = xs.getD a 0 := by
  rw [List.getD_eq_getElem?_getD, List.getElem?_take, if_pos h, List.getD_eq_getElem?_getD]
theorem blOf_take (n : Ino) (xs : List Nat) : blOf n (xs.take (need1 n)) = blOf n xs := by
  unfold blOf
  rw [List.take_take, Nat.min_self]

theorem LaidI.list {T : Sh} {i : Int} {n : Ino} {xs : List Nat} (h : LaidI T i n xs) : 0 ≤ listOf xs (need1 n) (more1 n) ∧ listOf xs (need1 n) (more1 n) < 256 ∧ (more1 n = 1 → listOf xs (need1 n) (more1 n) = ((xs.getD (need1 n) 0 : Nat) : Int) ∧ xs.getD (need1 n) 0 ∈ xs ∧ 0 < listOf xs (need1 n) (more1 n)) ∧ (more1 n ≠ 1 → listOf xs (need1 n) (more1 n) = 0) := by
  unfold listOf
  split
  · rename_i hm
    have hin : xs.getD (need1 n) 0 ∈ xs := getD_in (by have := h.len; omega)
    have := h.mem _ hin
    exact ⟨by omega, by omega, fun _ => ⟨rfl, hin, by omega⟩, fun hh => absurd hm hh⟩
  · rename_i hm
    exact ⟨by omega, by omega, fun hh => absurd hh hm, fun _ => rfl⟩

theorem LaidI.ownOK {T : Sh} {i : Int} {n : Ino} {xs : List Nat} (h : LaidI T i n xs) : OwnOK (xs.take (need1 n)) (need1 n) := by
  have hl := h.len
  refine ⟨fun a ha => ?_, fun a b hab hb => ?_⟩
  · rw [take_getD _ _ _ ha]
    exact (h.mem _ (getD_in (by omega))).2
  · rw [take_getD _ _ _ (by omega), take_getD _ _ _ hb]
    exact h.pair a b hab (by omega)

theorem LaidI.ne {T : Sh} {i : Int} {n : Ino} {xs : List Nat} (h : LaidI T i n xs) (a : Nat) (ha : a < need1 n) (h0 : listOf xs (need1 n) (more1 n) ≠ 0) : (((xs.take (need1 n)).getD a 0 : Nat) : Int) ≠ listOf xs (need1 n) (more1 n) := by
  obtain ⟨-, -, h3, h4⟩ := h.list
  by_cases hm : more1 n = 1
  · rw [(h3 hm).1, take_getD _ _ _ ha]
    have := h.pair a (need1 n) ha (by have := h.len; omega)
    omega
  · exact absurd (h4 hm) h0

open Classical in
theorem more1_one (n : Ino) : more1 n = 1 ↔ 5 < need1 n ∨ LongP n.bl := by
  unfold more1
  split
  · rename_i h; exact ⟨fun _ => h, fun _ => rfl⟩
  · rename_i h; exact ⟨fun e => by omega, fun e => absurd e h⟩

theorem longP_blOf {n : Ino} (hr : RightP n) (hl : n.bl.length = 13) {xs : List Nat} (hx : need1 n ≤ xs.length) (hpos : ∀ a, a < need1 n → 1 ≤ xs.getD a 0) : LongP (blOf n xs) ↔ 5 < need1 n ∨ LongP n.bl := by
  have h6 := need1_le hr
  unfold LongP
  constructor
  · rintro ⟨k, h1, h2, h3⟩
    rw [blOf_get hl xs hx k h2] at h3
    by_cases hk : k < need1 n
    · exact .inl (by omega)
    · rw [if_neg hk] at h3
      exact .inr ⟨k, h1, h2, h3⟩
  · rintro (h5 | ⟨k, h1, h2, h3⟩)
    · refine ⟨5, by omega, by omega, ?_⟩
      rw [blOf_get hl xs hx 5 (by omega), if_pos h5]
      have := hpos 5 h5
      omega
    · refine ⟨k, h1, h2, ?_⟩
      rw [blOf_get hl xs hx k h2]
      split
      · rename_i hk
        have := hpos k hk
        omega
      · exact h3

theorem lay1S_laid (S : Sh) (i : Int) (hi : 0 ≤ i ∧ i < 32) (n : Ino) (hr : RightP n) (hfree : need1 n + more1 n ≤ freeN S) : LaidI (lay1S S i n) i n (layX S n) := by
  have ht := tookN S _ hfree
  have hmem : ∀ x ∈ layX S n, 1 ≤ x ∧ x < 256 := fun x hx => ⟨(ht.mem x hx).1, (ht.mem x hx).2.1⟩
  have hlen : (layX S n).length = need1 n + more1 n := ht.len
  have hown : OwnOK (layX S n) (need1 n) := by
    refine ⟨fun a ha => (hmem _ (getD_in (by omega))).2, fun a b hab hb => ?_⟩
    have := pair_get ht.pair a b hab (by have := ht.len; omega)
    have e : (layX S n) = (takeFrom 255 S 1 (need1 n + more1 n)).2 := rfl
    rw [e]
    omega
  have hlist : 0 ≤ layL S n ∧ layL S n < 256 := by
    unfold layL listOf
    split
    · have := hmem _ (getD_in (l := layX S n) (a := need1 n) (by omega))
      omega
    · omega
  have hne : ∀ a, a < need1 n → layL S n ≠ 0 → (((layX S n).getD a 0 : Nat) : Int) ≠ layL S n := by
    intro a ha h0
    unfold layL listOf at h0 ⊢
    split
    · rename_i hm
      have := pair_get ht.pair a (need1 n) ha (by have := ht.len; omega)
      have e : (layX S n) = (takeFrom 255 S 1 (need1 n + more1 n)).2 := rfl
      rw [e]
      omega
    · rename_i hm
      rw [if_neg hm] at h0
      exact absurd rfl h0
  have hQ := lay1Q_laid (lay1T S n).1 (at_ := 824 + i * 8) (by omega) n (layX S n) hlist hown hne (fun a ha r hr => ht.zero _ (getD_in (by have := ht.len; omega)) r hr)
  refine ⟨?_, hlen, hmem, apartTo_pair ht.pair⟩
  exact LaidQ.own (own := layX S n) (own' := (layX S n).take (need1 n)) hQ (fun a ha => take_getD _ _ _ ha) (blOf_take n _)

/-- The words that Lay leaves as they are. -/
theorem lay1S_out (S : Sh) (i : Int) (hi : 0 ≤ i ∧ i < 32) (n : Ino) (hr : RightP n) (hfree : need1 n + more1 n ≤ freeN S) (j : Int) (h8 : 820 ≤ j) (hj : j < 824 + i * 8 ∨ 832 + i * 8 ≤ j) (hx : ∀ x ∈ layX S n, j < 1080 + (x : Int) * 8 ∨ 1088 + (x : Int) * 8 ≤ j) :
    (lay1S S i n).get j = S.get j := by
  have ht := tookN S _ hfree
  have hL := (lay1S_laid S i hi n hr hfree).list
  have e : (lay1S S i n).get j = (lay1T S n).1.get j := by
    refine lay1Q_out (lay1T S n).1 n (layX S n) (list := layL S n) j (by omega) (fun a ha => hx _ (getD_in (by have := (lay1S_laid S i hi n hr hfree).len; omega))) (fun h0 => ?_)
    by_cases hm : more1 n = 1
    · have h3 := hL.2.2.1 hm
      have e2 : layL S n = (((layX S n).getD (need1 n) 0 : Nat) : Int) := h3.1
      rw [e2]
      exact hx _ h3.2.1
    · exact absurd (hL.2.2.2 hm) h0
  rw [e]
  exact ht.out j h8 hx

/-- The bits behind Lay. -/
theorem lay1S_bits (S : Sh) (i : Int) (hi : 0 ≤ i ∧ i < 32) (n : Ino) (hr : RightP n) (hfree : need1 n + more1 n ≤ freeN S) (c : Nat) (hc : c < 256) : bitB (lay1S S i n) c = (bitB S c || decide (c ∈ layX S n)) := by
  have ht := tookN S _ hfree
  have hL := (lay1S_laid S i hi n hr hfree).list
  have hb := ht.bits c hc
  have e : (lay1S S i n).get ((816 + c / 64 : Nat) : Int) = (lay1T S n).1.get ((816 + c / 64 : Nat) : Int) :=
    lay1Q_out (lay1T S n).1 n (layX S n) (list := layL S n) _ (by omega) (fun a ha => by omega) (fun h0 => by have h1 : 0 ≤ layL S n := hL.1; omega)
  rw [get_natx _ _ (by omega), get_natx _ _ (by omega)] at e
  have e2 : bitB (lay1S S i n) c = bitB (lay1T S n).1 c := by unfold bitB; rw [e]
  rw [e2]
  exact hb

theorem apart_pair {l : List Nat} (h : l.Pairwise (· < ·)) : apartB l = true := (apartB_iff l).2 fun i j hij hj => by
  have := pair_get h i j hij hj
  omega

theorem LaidI.all {T : Sh} {i : Int} {n : Ino} {xs : List Nat} (h : LaidI T i n xs) : allOf (xs.take (need1 n)) (listOf xs (need1 n) (more1 n)) = xs := by
  obtain ⟨-, -, h3, h4⟩ := h.list
  have hl := h.len
  unfold allOf
  by_cases hm : more1 n = 1
  · obtain ⟨e, -, hp⟩ := h3 hm
    rw [if_pos hp, e, Int.toNat_natCast]
    have hlt : need1 n < xs.length := by omega
    rw [List.getD_eq_getElem?_getD, List.getElem?_eq_getElem hlt]
    show xs.take (need1 n) ++ [xs[need1 n]] = xs
    rw [← List.take_succ_eq_append_getElem hlt]
    exact List.take_of_length_le (by omega)
  · rw [h4 hm, if_neg (by omega)]
    have := more1_le n
    exact List.take_of_length_le (by omega)

/-- An inode that was laid is read. -/
theorem rd1_laid {T : Sh} {i : Int} (hi : 0 ≤ i ∧ i < 32) {n : Ino} {xs : List Nat} (h : LaidI T i n xs) (hr : RightP n) (hf : n.format = 1) (hl : n.bl.length = 13) : rd1 T i = some (n, xs) := by
  have hlen := h.len
  have hpos : ∀ a, a < need1 n → 1 ≤ (xs.take (need1 n)).getD a 0 := fun a ha => by
    rw [take_getD _ _ _ ha]
    exact (h.mem _ (getD_in (by omega))).1
  have htl : (xs.take (need1 n)).length = need1 n := by rw [List.length_take]; omega
  have hlong : listOf xs (need1 n) (more1 n) ≠ 0 ↔ LongP (blOf n (xs.take (need1 n))) := by
    rw [longP_blOf hr hl (by omega) hpos, ← more1_one]
    obtain ⟨-, -, h3, h4⟩ := h.list
    constructor
    · intro h0
      by_cases hm : more1 n = 1
      · exact hm
      · exact absurd (h4 hm) h0
    · intro hm
      have := (h3 hm).2.2
      omega
  have hr1 := rd_of_laid (at_ := 824 + i * 8) (by omega) h.laid ⟨h.list.1, h.list.2.1⟩ hr hf hl htl h.ownOK hpos hlong h.ne (by rw [h.all]; exact (apartB_iff _).2 h.pair)
  unfold rd1
  rw [if_neg (by omega), hr1, h.all]

theorem LaidI.congr {T T' : Sh} {i : Int} {n : Ino} {xs : List Nat} (h : LaidI T i n xs) (h1 : ∀ k : Nat, k < 8 → T'.get (824 + i * 8 + (k : Int)) = T.get (824 + i * 8 + (k : Int)))
    (h2 : ∀ x ∈ xs, ∀ r : Nat, r < 8 → T'.get (1080 + (x : Int) * 8 + (r : Int)) = T.get (1080 + (x : Int) * 8 + (r : Int))) : LaidI T' i n xs := by
  have hl := h.len
  refine ⟨h.laid.congr h1 (fun a ha r hr => ?_) (fun h0 w hw => ?_), h.len, h.mem, h.pair⟩
  · rw [take_getD _ _ _ ha]
    exact h2 _ (getD_in (by omega)) r hr
  · obtain ⟨-, -, h3, h4⟩ := h.list
    by_cases hm : more1 n = 1
    · rw [(h3 hm).1]
      exact h2 _ (h3 hm).2.1 w hw
    · exact absurd (h4 hm) h0

/-- Two inodes, one laid behind the other. -/
theorem both_laid (S : Sh) (i j : Int) (hi : 0 ≤ i ∧ i < 32) (hj : 0 ≤ j ∧ j < 32) (hij : i ≠ j) (a b : Ino) (ha : RightP a) (hb : RightP b) (h1 : need1 a + more1 a ≤ freeN S) (h2 : need1 b + more1 b ≤ freeN (lay1S S i a)) :
    LaidI (lay1S (lay1S S i a) j b) i a (layX S a) ∧ LaidI (lay1S (lay1S S i a) j b) j b (layX (lay1S S i a) b) ∧ ∀ x ∈ layX S a, ∀ y ∈ layX (lay1S S i a) b, x ≠ y := by
  have hA := lay1S_laid S i hi a ha h1
  have hB := lay1S_laid (lay1S S i a) j hj b hb h2
  have hap : ∀ x ∈ layX S a, ∀ y ∈ layX (lay1S S i a) b, x ≠ y := by
    intro x hx y hy e
    subst e
    have h3 := (tookN (lay1S S i a) _ h2).mem x hy
    have h4 := lay1S_bits S i hi a ha h1 x (hA.mem x hx).2
    rw [h3.2.2] at h4
    simp [hx] at h4
  refine ⟨hA.congr (fun k hk => ?_) (fun x hx r hr => ?_), hB, hap⟩
  · exact lay1S_out _ j hj b hb h2 _ (by omega) (by omega) (fun y hy => by omega)
  · exact lay1S_out _ j hj b hb h2 _ (by omega) (by omega) (fun y hy => by have := hap x hx y hy; omega)

end Go.Proofs.Ytfpnmphmngdkdaa
