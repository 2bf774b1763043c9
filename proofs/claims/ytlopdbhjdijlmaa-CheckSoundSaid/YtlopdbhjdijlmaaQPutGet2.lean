/-
  What each word is where an inode was laid in the second format; what Read tells is laid: plain lemmas. Nothing is assumed.
  What was laid in the second format is read again: plain lemmas. Nothing is assumed.
-/
import Derived.Test.YtlopdbhjdijlmaaQRd1Some
import Derived.Test.YtlopdbhjdijlmaaQLayGet
import Derived.Test.YtlopdbhjdijlmaaQRd2M
import Derived.Test.YtlopdbhjdijlmaaQPackM
import Derived.Test.YtlopdbhjdijlmaaQLayTwo

namespace Go.Proofs.Ytlopdbhjdijlmaa
set_option linter.unusedSimpArgs false
set_option linter.unusedVariables false

theorem putN_get (S : Sh) (base : Int) (f : Nat → Int) (h0 : 0 ≤ base) : ∀ k : Nat, base + (k : Int) ≤ 3128 → ∀ j, (putN S base f k).get j = if base ≤ j ∧ j < base + (k : Int) then f (j - base).toNat else S.get j := by
  intro k
  induction k with
  | zero => intro _ j; rw [if_neg (by omega)]; rfl
  | succ k ih =>
    intro hk j
    simp only [putN]
    by_cases e : j = base + (k : Int)
    · rw [get_put_eq _ e (by omega) (by omega), if_pos (by omega), show (j - base).toNat = k by omega]
    · rw [get_put_ne _ e, ih (by omega)]
      by_cases h : base ≤ j ∧ j < base + (k : Int)
      · rw [if_pos h, if_pos (by omega)]
      · rw [if_neg h, if_neg (by omega)]

theorem link_out (S : Sh) (o : List Nat) (j : Int) : ∀ m, (∀ a, a < m → j ≠ 1080 + ((o.getD a 0 : Nat) : Int) * 8) → (linkS S o m).get j = S.get j := by
  intro m
  induction m with
  | zero => intro _; rfl
  | succ m ih =>
    intro h
    simp only [linkS]
    rw [get_put_ne _ (h m (by omega))]
    exact ih (fun a ha => h a (by omega))
theorem link_in (S : Sh) (o : List Nat) (q : Nat) (ho : OwnOK o q) (a : Nat) : ∀ m, m ≤ q → a < m → (linkS S o m).get (1080 + ((o.getD a 0 : Nat) : Int) * 8) = ((o.getD (a + 1) 0 : Nat) : Int) := by
  intro m
  induction m with
  | zero => intro _ h; omega
  | succ m ih =>
    intro hm ha
    simp only [linkS]
    have h1 := ho.1 a (by omega)
    by_cases e : a = m
    · subst e
      rw [get_put_eq _ rfl (by omega) (by omega)]
    · have h2 := ho.ne (a := a) (b := m) (by omega) (by omega) e
      rw [get_put_ne _ (by omega)]
      exact ih (by omega) (by omega)

theorem ent3_out (S : Sh) (own : List Nat) (l : List En) (q : Nat) (j : Int) (hj : ∀ a, a < q → j < 1080 + ((own.getD a 0 : Nat) : Int) * 8 ∨ 1088 + ((own.getD a 0 : Nat) : Int) * 8 ≤ j) : ∀ m, m ≤ 3 * q → (ent3To S own l m).get j = S.get j := by
  intro m
  induction m with
  | zero => intro _; rfl
  | succ m ih =>
    intro hm
    simp only [ent3To]
    unfold ent3At
    have := hj (m / 3) (by omega)
    rw [get_put_ne _ (by omega), get_put_ne _ (by omega)]
    exact ih (by omega)

/-- A word of an entry. -/
def entW (l : List En) (k r : Nat) : Int := if r % 2 = 1 then ((nword (l.getD k default).name : Nat) : Int) else (l.getD k default).ino

theorem ent3_in (S : Sh) (own : List Nat) (l : List En) (q : Nat) (ho : OwnOK own q) (a : Nat) (ha : a < q) (r : Nat) (hr : r < 8) : ∀ m, m ≤ 3 * q →
    (ent3To S own l m).get (1080 + ((own.getD a 0 : Nat) : Int) * 8 + (r : Int)) = if (1 ≤ r ∧ r ≤ 6) ∧ 3 * a + (r - 1) / 2 < m then entW l (3 * a + (r - 1) / 2) r else S.get (1080 + ((own.getD a 0 : Nat) : Int) * 8 + (r : Int)) := by
  intro m
  have hb := ho.1 a ha
  induction m with
  | zero => intro _; rw [if_neg (by omega)]; rfl
  | succ m ih =>
    intro hm
    simp only [ent3To]
    unfold ent3At
    have hm4 : m / 3 < q := by omega
    by_cases e : (1 ≤ r ∧ r ≤ 6) ∧ m = 3 * a + (r - 1) / 2
    · obtain ⟨e0, e⟩ := e
      have e4 : m / 3 = a := by omega
      have e5 : m % 3 = (r - 1) / 2 := by omega
      rw [e4, e5, if_pos (by omega), ← e]
      unfold entW
      by_cases e2 : r % 2 = 1
      · rw [if_pos e2, get_put_ne _ (by omega), get_put_eq _ (by omega) (by omega) (by omega)]
      · rw [if_neg e2, get_put_eq _ (by omega) (by omega) (by omega)]
    · have hne : 1080 + ((own.getD a 0 : Nat) : Int) * 8 + (r : Int) ≠ 1080 + ((own.getD (m / 3) 0 : Nat) : Int) * 8 + 1 + 2 * ((m % 3 : Nat) : Int) ∧ 1080 + ((own.getD a 0 : Nat) : Int) * 8 + (r : Int) ≠ 1080 + ((own.getD (m / 3) 0 : Nat) : Int) * 8 + 1 + 2 * ((m % 3 : Nat) : Int) + 1 := by
        by_cases e4 : m / 3 = a
        · rw [e4]; omega
        · have := ho.ne hm4 ha e4
          omega
      rw [get_put_ne _ hne.2, get_put_ne _ hne.1, ih (by omega)]
      by_cases h : (1 ≤ r ∧ r ≤ 6) ∧ 3 * a + (r - 1) / 2 < m
      · rw [if_pos h, if_pos (by omega)]
      · rw [if_neg h, if_neg (by omega)]

theorem bucket2_out (S : Sh) (l : List En) (o : List Nat) (hd : o.length = (l.length + 2) / 3) (j : Int) (hj : ∀ a, a < o.length → j < 1080 + ((o.getD a 0 : Nat) : Int) * 8 ∨ 1088 + ((o.getD a 0 : Nat) : Int) * 8 ≤ j) : (bucket2S S l o).get j = S.get j := by
  unfold bucket2S
  rw [ent3_out _ o l o.length j hj l.length (by omega), link_out S o j o.length (fun a ha => by have := hj a ha; omega)]

theorem bucket2_in (S : Sh) (l : List En) (o : List Nat) (ho : OwnOK o o.length) (hd : o.length = (l.length + 2) / 3) (a : Nat) (ha : a < o.length) (r : Nat) (hr : r < 8) (hz : S.get (1080 + ((o.getD a 0 : Nat) : Int) * 8 + (r : Int)) = 0) :
    (bucket2S S l o).get (1080 + ((o.getD a 0 : Nat) : Int) * 8 + (r : Int)) = wd3 l o 0 o.length a r := by
  unfold bucket2S wd3
  rw [ent3_in _ o l o.length ho a ha r hr l.length (by omega)]
  by_cases h0 : r = 0
  · subst h0
    rw [if_neg (by omega), if_pos rfl]
    have := link_in S o o.length ho a o.length (Nat.le_refl _) ha
    rw [show (1080 + ((o.getD a 0 : Nat) : Int) * 8 + ((0 : Nat) : Int)) = 1080 + ((o.getD a 0 : Nat) : Int) * 8 by omega, this]
    by_cases h1 : a + 1 < o.length
    · rw [if_pos h1, Nat.zero_add]
    · rw [if_neg h1, List.getD_eq_getElem?_getD, List.getElem?_eq_none (by omega)]
      rfl
  · have hlk : (linkS S o o.length).get (1080 + ((o.getD a 0 : Nat) : Int) * 8 + (r : Int)) = 0 := by
      rw [link_out S o _ o.length (fun b hb => by omega)]
      exact hz
    rw [if_neg h0]
    by_cases h7 : r = 7
    · rw [if_pos h7, if_neg (by omega)]
      exact hlk
    · rw [if_neg h7]
      by_cases he : 3 * a + (r - 1) / 2 < l.length
      · rw [if_pos (by omega), if_pos he]
        rfl
      · rw [if_neg (by omega), if_neg he]
        exact hlk

theorem ownB_length {l : List En} {own : List Nat} {k : Nat} (h : sumB l (k + 1) ≤ own.length) : (ownB l own k).length = dB l k := by
  have : sumB l (k + 1) = sumB l k + dB l k := rfl
  unfold ownB
  rw [List.length_take, List.length_drop]
  unfold dB at *
  omega
theorem ownB_get {l : List En} {own : List Nat} {k a : Nat} (h : a < dB l k) : (ownB l own k).getD a 0 = own.getD (sumB l k + a) 0 := by
  show ((own.drop (sumB l k)).take (dB l k)).getD a 0 = _
  rw [take_getD2 _ _ _ h, List.getD_eq_getElem?_getD, List.getElem?_drop, ← List.getD_eq_getElem?_getD]
theorem wd3_ownB (l : List En) (own : List Nat) (k : Nat) (a r : Nat) : wd3 (bktL l k) (ownB l own k) 0 (dB l k) a r = wd3 (bktL l k) own (sumB l k) (dB l k) a r := by
  unfold wd3
  by_cases h0 : r = 0
  · rw [if_pos h0, if_pos h0]
    by_cases h1 : a + 1 < dB l k
    · rw [if_pos h1, if_pos h1, Nat.zero_add, ownB_get h1, Nat.add_assoc]
    · rw [if_neg h1, if_neg h1]
  · rw [if_neg h0, if_neg h0]

theorem sum_lt {l : List En} {b k a : Nat} (hb : b < k) (ha : a < dB l b) : sumB l b + a < sumB l k := by
  have h1 : sumB l (b + 1) = sumB l b + dB l b := rfl
  have h2 := sumB_mono l (a := b + 1) (b := k) hb
  omega
theorem ownB_ok {l : List En} {own : List Nat} (ho : OwnOK own own.length) {k : Nat} (h : sumB l (k + 1) ≤ own.length) : OwnOK (ownB l own k) (dB l k) := by
  have h1 : sumB l (k + 1) = sumB l k + dB l k := rfl
  refine ⟨fun a ha => ?_, fun a b hab hb => ?_⟩
  · rw [ownB_get ha]
    exact ho.1 _ (by omega)
  · rw [ownB_get (by omega), ownB_get hb]
    exact ho.2 _ _ (by omega) (by omega)

/-- A place in none of so many buckets' blocks. -/
def OutB (l : List En) (own : List Nat) (k : Nat) (j : Int) : Prop := ∀ b, b < k → ∀ a, a < dB l b → j < 1080 + ((own.getD (sumB l b + a) 0 : Nat) : Int) * 8 ∨ 1088 + ((own.getD (sumB l b + a) 0 : Nat) : Int) * 8 ≤ j

theorem dir2To_out (S : Sh) (at_ : Int) (l : List En) (own : List Nat) (j : Int) : ∀ k, sumB l k ≤ own.length → (∀ b : Nat, b < k → j ≠ at_ + 2 + (b : Int)) → OutB l own k j → (dir2To S at_ l own k).get j = S.get j := by
  intro k
  induction k with
  | zero => intro _ _ _; rfl
  | succ k ih =>
    intro hs h1 h2
    have hl := ownB_length (l := l) (own := own) hs
    simp only [dir2To]
    rw [get_put_ne _ (h1 k (by omega)), bucket2_out _ _ _ hl j (fun a ha => by rw [ownB_get (by omega)]; exact h2 k (by omega) a (by omega))]
    exact ih (Nat.le_trans (sumB_mono l (by omega)) hs) (fun b hb => h1 b (by omega)) (fun b hb => h2 b (by omega))

theorem dir2To_blk (S : Sh) {at_ : Int} (ha : 820 ≤ at_ ∧ at_ ≤ 1072) (l : List En) (own : List Nat) (ho : OwnOK own own.length) (b a r : Nat) (hab : a < dB l b) (hr : r < 8) (hz : S.get (1080 + ((own.getD (sumB l b + a) 0 : Nat) : Int) * 8 + (r : Int)) = 0) : ∀ k, k ≤ 4 → sumB l k ≤ own.length → b < k →
    (dir2To S at_ l own k).get (1080 + ((own.getD (sumB l b + a) 0 : Nat) : Int) * 8 + (r : Int)) = wd3 (bktL l b) own (sumB l b) (dB l b) a r := by
  intro k
  induction k with
  | zero => intro _ _ h; omega
  | succ k ih =>
    intro hk hs hb
    have hl := ownB_length (l := l) (own := own) hs
    have hsk : sumB l k ≤ own.length := Nat.le_trans (sumB_mono l (by omega)) hs
    have hs1 : sumB l (k + 1) = sumB l k + dB l k := rfl
    simp only [dir2To]
    rw [get_put_ne _ (by omega)]
    by_cases e : b = k
    · subst e
      have hin := bucket2_in (dir2To S at_ l own b) (bktL l b) (ownB l own b) (by rw [hl]; exact ownB_ok ho hs) hl a (by omega) r hr (by
        rw [ownB_get hab, dir2To_out S at_ l own _ b hsk (fun c hc => by omega) (fun c hc d hd => by
          have h1 := sum_lt hc hd
          have h2 := ho.2 _ _ (show sumB l c + d < sumB l b + a by omega) (by omega)
          omega)]
        exact hz)
      rw [ownB_get hab, hl, wd3_ownB] at hin
      exact hin
    · have hbk : b < k := by omega
      have h1 := sum_lt hbk hab
      rw [bucket2_out _ _ _ hl _ (fun c hc => by
        rw [ownB_get (by omega)]
        have h2 := ho.2 _ _ (show sumB l b + a < sumB l k + c by omega) (by omega)
        omega)]
      exact ih (by omega) hsk hbk

theorem dir2To_num (S : Sh) {at_ : Int} (ha : 820 ≤ at_ ∧ at_ ≤ 1072) (l : List En) (own : List Nat) (ho : OwnOK own own.length) (b : Nat) : ∀ k, k ≤ 4 → sumB l k ≤ own.length → b < k →
    (dir2To S at_ l own k).get (at_ + 2 + (b : Int)) = (((ownB l own b).getD 0 0 : Nat) : Int) := by
  intro k
  induction k with
  | zero => intro _ _ h; omega
  | succ k ih =>
    intro hk hs hb
    have hl := ownB_length (l := l) (own := own) hs
    have hsk : sumB l k ≤ own.length := Nat.le_trans (sumB_mono l (by omega)) hs
    simp only [dir2To]
    by_cases e : b = k
    · subst e
      rw [get_put_eq _ rfl (by omega) (by omega)]
    · rw [get_put_ne _ (by omega), bucket2_out _ _ _ hl _ (fun c hc => by omega)]
      exact ih (by omega) hsk (by omega)

theorem ownB_head (l : List En) (own : List Nat) (b : Nat) : (((ownB l own b).getD 0 0 : Nat) : Int) = if 0 < dB l b then ((own.getD (sumB l b) 0 : Nat) : Int) else 0 := by
  by_cases h : 0 < dB l b
  · rw [if_pos h, ownB_get h, Nat.add_zero]
  · rw [if_neg h]
    unfold ownB
    unfold dB at h
    rw [show ((bktL l b).length + 2) / 3 = 0 by omega, List.take_zero]
    rfl

theorem hitK_none (l : List En) (own : List Nat) (fr d : Nat) (i : Int) (f : Nat) : ∀ k, (∀ a, k ≤ a → a < k + f → i < 1080 + ((own.getD (fr + a) 0 : Nat) : Int) * 8 ∨ 1088 + ((own.getD (fr + a) 0 : Nat) : Int) * 8 ≤ i) → hitK l own fr d i k f = none := by
  induction f with
  | zero => intro k _; rfl
  | succ f ih =>
    intro k h
    simp only [hitK]
    have := h k (by omega) (by omega)
    rw [if_neg (by omega)]
    exact ih (k + 1) (fun a h1 h2 => h a (by omega) (by omega))
theorem hitK_some (l : List En) (own : List Nat) (fr d : Nat) (i : Int) (a r : Nat) (hr : r < 8) (hi : i = 1080 + ((own.getD (fr + a) 0 : Nat) : Int) * 8 + (r : Int)) (f : Nat) : ∀ k, k ≤ a → a < k + f → (∀ b, k ≤ b → b < a → own.getD (fr + b) 0 ≠ own.getD (fr + a) 0) → hitK l own fr d i k f = some (wd3 l own fr d a r) := by
  induction f with
  | zero => intro k h1 h2; omega
  | succ f ih =>
    intro k h1 h2 h3
    simp only [hitK]
    by_cases e : k = a
    · subst e
      rw [if_pos (by omega), show (i - 1080 - 8 * ((own.getD (fr + k) 0 : Nat) : Int)).toNat = r by omega]
    · have := h3 k (by omega) (by omega)
      rw [if_neg (by omega)]
      exact ih (k + 1) (by omega) (by omega) (fun b h4 h5 => h3 b (by omega) h5)

theorem wordB_skip {l : List En} {own : List Nat} {at_ i : Int} {b : Nat} (f : Nat) (h1 : i ≠ at_ + 2 + (b : Int)) (h2 : ∀ a, a < dB l b → i < 1080 + ((own.getD (sumB l b + a) 0 : Nat) : Int) * 8 ∨ 1088 + ((own.getD (sumB l b + a) 0 : Nat) : Int) * 8 ≤ i) : wordB l own at_ i b (f + 1) = wordB l own at_ i (b + 1) f := by
  simp only [wordB]
  rw [if_neg (by omega), hitK_none _ _ _ _ _ _ 0 (fun a _ ha => h2 a (by omega))]
theorem wordB_out (l : List En) (own : List Nat) (at_ i : Int) (f : Nat) : ∀ b, (∀ c : Nat, b ≤ c → c < b + f → i ≠ at_ + 2 + (c : Int)) → (∀ c, b ≤ c → c < b + f → ∀ a, a < dB l c → i < 1080 + ((own.getD (sumB l c + a) 0 : Nat) : Int) * 8 ∨ 1088 + ((own.getD (sumB l c + a) 0 : Nat) : Int) * 8 ≤ i) → wordB l own at_ i b f = (0, decide (i - at_ = 6 ∨ i - at_ = 7)) := by
  induction f with
  | zero => intro b _ _; rfl
  | succ f ih =>
    intro b h1 h2
    rw [wordB_skip f (h1 b (by omega) (by omega)) (h2 b (by omega) (by omega))]
    exact ih (b + 1) (fun c h3 h4 => h1 c (by omega) (by omega)) (fun c h3 h4 => h2 c (by omega) (by omega))
theorem wordB_num (l : List En) (own : List Nat) {at_ : Int} (ha : 820 ≤ at_ ∧ at_ ≤ 1072) (b : Nat) (hb4 : b < 4) (f : Nat) : ∀ b0, b0 ≤ b → b < b0 + f → wordB l own at_ (at_ + 2 + (b : Int)) b0 f = (if 0 < dB l b then ((own.getD (sumB l b) 0 : Nat) : Int) else 0, true) := by
  induction f with
  | zero => intro b0 h1 h2; omega
  | succ f ih =>
    intro b0 h1 h2
    by_cases e : b0 = b
    · subst e
      simp only [wordB]
      rw [if_pos (by omega)]
    · rw [wordB_skip f (by omega) (fun a _ => by omega)]
      exact ih (b0 + 1) (by omega) (by omega)
theorem wordB_blk (l : List En) (own : List Nat) {at_ : Int} (ha : 820 ≤ at_ ∧ at_ ≤ 1072) (ho : OwnOK own own.length) (b a r : Nat) (hs : sumB l (b + 1) ≤ own.length) (hb4 : b < 4) (hab : a < dB l b) (hr : r < 8) (i : Int) (hi : i = 1080 + ((own.getD (sumB l b + a) 0 : Nat) : Int) * 8 + (r : Int)) (f : Nat) : ∀ b0, b0 ≤ b → b < b0 + f → b0 + f ≤ 4 →
    wordB l own at_ i b0 f = (wd3 (bktL l b) own (sumB l b) (dB l b) a r, true) := by
  have hs1 : sumB l (b + 1) = sumB l b + dB l b := rfl
  induction f with
  | zero => intro b0 h1 h2; omega
  | succ f ih =>
    intro b0 h1 h2 h4
    by_cases e : b0 = b
    · subst e
      simp only [wordB]
      rw [if_neg (by omega), hitK_some _ _ _ _ _ a r hr hi _ 0 (by omega) (by omega) (fun c _ hc => ho.2 _ _ (by omega) (by omega))]
    · rw [wordB_skip f (by omega) (fun c hc => by
        have h5 := sum_lt (show b0 < b by omega) hc
        have h6 := ho.2 _ _ (show sumB l b0 + c < sumB l b + a by omega) (by omega)
        omega)]
      exact ih (b0 + 1) (by omega) (by omega) (by omega)

theorem dir2_word (S : Sh) {at_ : Int} (ha : 820 ≤ at_ ∧ at_ ≤ 1072) (l : List En) (own : List Nat) (ho : OwnOK own own.length) (hl : own.length = sumB l 4) (j : Int) (hj : 820 ≤ j ∧ j < 3128) (hz : (j < at_ ∨ at_ + 8 ≤ j) → S.get j = 0) (h0 : j ≠ at_) (h1 : j ≠ at_ + 1) :
    (dir2S S at_ l own).get j = (wordB l own at_ j 0 4).1 := by
  unfold dir2S
  rw [putN_get _ _ _ (by omega) 2 (by omega)]
  by_cases h67 : at_ + 6 ≤ j ∧ j < at_ + 6 + ((2 : Nat) : Int)
  · rw [if_pos h67, wordB_out l own at_ j 4 0 (fun c _ hc => by omega) (fun c _ hc a _ => by omega)]
  · rw [if_neg h67]
    by_cases hn : ∃ b : Nat, b < 4 ∧ j = at_ + 2 + (b : Int)
    · obtain ⟨b, hb, rfl⟩ := hn
      rw [dir2To_num S ha l own ho b 4 (by omega) (by omega) hb, wordB_num l own ha b hb 4 0 (by omega) (by omega), ownB_head]
    · have hn' : ∀ c : Nat, c < 4 → j ≠ at_ + 2 + (c : Int) := fun c hc e => hn ⟨c, hc, e⟩
      by_cases hk : ∃ b a, b < 4 ∧ a < dB l b ∧ 1080 + ((own.getD (sumB l b + a) 0 : Nat) : Int) * 8 ≤ j ∧ j < 1088 + ((own.getD (sumB l b + a) 0 : Nat) : Int) * 8
      · obtain ⟨b, a, hb, hab, h2, h3⟩ := hk
        obtain ⟨r, hr⟩ : ∃ r : Nat, r = (j - 1080 - ((own.getD (sumB l b + a) 0 : Nat) : Int) * 8).toNat := ⟨_, rfl⟩
        have hjr : j = 1080 + ((own.getD (sumB l b + a) 0 : Nat) : Int) * 8 + (r : Int) := by omega
        have hs : sumB l (b + 1) ≤ own.length := by rw [hl]; exact sumB_mono l (by omega)
        rw [wordB_blk l own ha ho b a r hs hb hab (by omega) j hjr 4 0 (by omega) (by omega) (by omega)]
        have hzz := hz (by omega)
        rw [hjr] at hzz ⊢
        exact dir2To_blk S ha l own ho b a r hab (by omega) hzz 4 (by omega) (by omega) hb
      · have hk' : OutB l own 4 j := fun b hb a hab => by
          by_cases h2 : j < 1080 + ((own.getD (sumB l b + a) 0 : Nat) : Int) * 8
          · exact .inl h2
          · by_cases h3 : 1088 + ((own.getD (sumB l b + a) 0 : Nat) : Int) * 8 ≤ j
            · exact .inr h3
            · exact absurd ⟨b, a, hb, hab, by omega, by omega⟩ hk
        have n0 := hn' 0 (by omega)
        have n1 := hn' 1 (by omega)
        have n2 := hn' 2 (by omega)
        have n3 := hn' 3 (by omega)
        rw [dir2To_out S at_ l own j 4 (by omega) hn' hk', wordB_out l own at_ j 4 0 (fun c _ hc => hn' c (by omega)) (fun c _ hc => hk' c (by omega))]
        exact hz (by omega)

theorem file2_word (S : Sh) {at_ : Int} (ha : 820 ≤ at_ ∧ at_ ≤ 1072) (R : List Int) (own : List Nat) (hob : ∀ b ∈ own, b < 256) (j : Int) (hj : 820 ≤ j ∧ j < 3128) (hz : (j < at_ ∨ at_ + 8 ≤ j) → S.get j = 0) (h0 : j ≠ at_) (h1 : j ≠ at_ + 1) :
    (file2S S at_ R own).get j = (if 2 ≤ j - at_ ∧ j - at_ < 8 then (fileV R own (j - at_ - 2).toNat, true)
     else if own ≠ [] ∧ 0 ≤ j - 1080 - 8 * ((own.getD 0 0 : Nat) : Int) ∧ j - 1080 - 8 * ((own.getD 0 0 : Nat) : Int) < 8 then (fileV R own (6 + (j - 1080 - 8 * ((own.getD 0 0 : Nat) : Int)).toNat), true)
     else (0, false)).1 := by
  have hx := getD_lt hob 0
  unfold file2S
  rw [putN_get _ _ _ (by omega) 6 (by omega)]
  by_cases h2 : 2 ≤ j - at_ ∧ j - at_ < 8
  · rw [if_pos (by omega), if_pos h2]
    dsimp only
    rw [show (j - (at_ + 2)).toNat = (j - at_ - 2).toNat by omega]
    obtain ⟨q, hq⟩ : ∃ q, q = (j - at_ - 2).toNat := ⟨_, rfl⟩
    rw [← hq]
    unfold w6f fileV
    by_cases hn : own = []
    · rw [if_neg (fun h => h.1 hn), if_pos hn, if_pos (by omega)]
    · rw [if_neg hn]
      by_cases h5 : q = 5
      · rw [if_pos ⟨hn, h5⟩, if_pos h5]
      · rw [if_neg (fun h => h5 h.2), if_neg h5, if_neg (by omega)]
  · rw [if_neg (by omega), if_neg h2]
    by_cases hn : own = []
    · rw [if_pos hn, if_neg (fun h => h.1 hn)]
      exact hz (by omega)
    · rw [if_neg hn, putN_get _ _ _ (by omega) 8 (by omega)]
      by_cases h3 : 0 ≤ j - 1080 - 8 * ((own.getD 0 0 : Nat) : Int) ∧ j - 1080 - 8 * ((own.getD 0 0 : Nat) : Int) < 8
      · rw [if_pos (by omega), if_pos ⟨hn, h3⟩]
        dsimp only
        obtain ⟨r, hr⟩ : ∃ r, r = (j - 1080 - 8 * ((own.getD 0 0 : Nat) : Int)).toNat := ⟨_, rfl⟩
        rw [← hr, show (j - (1080 + ((own.getD 0 0 : Nat) : Int) * 8)).toNat = r by omega]
        unfold fileV
        rw [if_neg hn, if_neg (by omega), if_pos (by omega), show 6 + r - 1 = 5 + r by omega]
      · rw [if_neg (by omega), if_neg (fun h => h3 h.2)]
        exact hz (by omega)

theorem put2_word (S : Sh) {at_ : Int} (ha : 820 ≤ at_ ∧ at_ ≤ 1072) (n : Ino) (own : List Nat) (hob : ∀ b ∈ own, b < 256) (ho : OwnOK own own.length) (hon : own.length = need2 n) (j : Int) (hj : 820 ≤ j ∧ j < 3128) (hz : (j < at_ ∨ at_ + 8 ≤ j) → S.get j = 0) :
    (put2S S at_ n own).get j = (word2At n at_ own j).1 := by
  have hz2 : (j < at_ ∨ at_ + 8 ≤ j) → ((S.put at_ (tagW n)).put (at_ + 1) n.size).get j = 0 := fun h => by rw [get_put_ne _ (by omega), get_put_ne _ (by omega)]; exact hz h
  unfold word2At put2S
  by_cases hk : n.kind = 1
  · rw [if_pos hk, if_pos hk]
    by_cases h0 : j = at_
    · rw [if_pos h0]
      unfold file2S
      rw [putN_get _ _ _ (by omega) 6 (by omega), if_neg (by omega)]
      by_cases hn : own = []
      · rw [if_pos hn, get_put_ne _ (by omega), get_put_eq _ h0 (by omega) (by omega)]
      · have hx := getD_lt hob 0
        rw [if_neg hn, putN_get _ _ _ (by omega) 8 (by omega), if_neg (by omega), get_put_ne _ (by omega), get_put_eq _ h0 (by omega) (by omega)]
    · rw [if_neg h0]
      by_cases h1 : j = at_ + 1
      · rw [if_pos h1]
        unfold file2S
        rw [putN_get _ _ _ (by omega) 6 (by omega), if_neg (by omega)]
        by_cases hn : own = []
        · rw [if_pos hn, get_put_eq _ h1 (by omega) (by omega)]
        · have hx := getD_lt hob 0
          rw [if_neg hn, putN_get _ _ _ (by omega) 8 (by omega), if_neg (by omega), get_put_eq _ h1 (by omega) (by omega)]
      · rw [if_neg h1]
        exact file2_word _ ha _ own hob j hj hz2 h0 h1
  · have hl : own.length = sumB n.ents 4 := by rw [hon]; unfold need2; rw [if_neg hk]
    rw [if_neg hk, if_neg hk]
    by_cases h0 : j = at_
    · rw [if_pos h0]
      unfold dir2S
      rw [putN_get _ _ _ (by omega) 2 (by omega), if_neg (by omega), dir2To_out _ _ _ _ _ 4 (by omega) (fun b hb => by omega) (fun b hb a hab => by omega), get_put_ne _ (by omega), get_put_eq _ h0 (by omega) (by omega)]
    · rw [if_neg h0]
      by_cases h1 : j = at_ + 1
      · rw [if_pos h1]
        unfold dir2S
        rw [putN_get _ _ _ (by omega) 2 (by omega), if_neg (by omega), dir2To_out _ _ _ _ _ 4 (by omega) (fun b hb => by omega) (fun b hb a hab => by omega), get_put_eq _ h1 (by omega) (by omega)]
      · rw [if_neg h1]
        exact dir2_word _ ha _ own ho hl j hj hz2 h0 h1

theorem put2_out (S : Sh) {at_ : Int} (ha : 820 ≤ at_ ∧ at_ ≤ 1072) (n : Ino) (own : List Nat) (hob : ∀ b ∈ own, b < 256) (hon : own.length = need2 n) (j : Int) (hj : j < at_ ∨ at_ + 8 ≤ j) (hx : ∀ a, a < own.length → j < 1080 + ((own.getD a 0 : Nat) : Int) * 8 ∨ 1088 + ((own.getD a 0 : Nat) : Int) * 8 ≤ j) :
    (put2S S at_ n own).get j = S.get j := by
  have hs : ((S.put at_ (tagW n)).put (at_ + 1) n.size).get j = S.get j := by rw [get_put_ne _ (by omega), get_put_ne _ (by omega)]
  unfold put2S
  by_cases hk : n.kind = 1
  · rw [if_pos hk]
    unfold file2S
    rw [putN_get _ _ _ (by omega) 6 (by omega), if_neg (by omega)]
    by_cases hn : own = []
    · rw [if_pos hn]; exact hs
    · have h1 := getD_lt hob 0
      have h2 := hx 0 (by cases own with | nil => exact absurd rfl hn | cons a l => simp)
      rw [if_neg hn, putN_get _ _ _ (by omega) 8 (by omega), if_neg (by omega)]
      exact hs
  · have hl : own.length = sumB n.ents 4 := by rw [hon]; unfold need2; rw [if_neg hk]
    rw [if_neg hk]
    unfold dir2S
    rw [putN_get _ _ _ (by omega) 2 (by omega), if_neg (by omega), dir2To_out _ _ _ _ _ 4 (by omega) (fun b hb => by omega) (fun b hb a hab => hx _ (by have := sum_lt hb hab; omega))]
    exact hs

theorem wordB_false (l : List En) (own : List Nat) (at_ i : Int) (f : Nat) : ∀ b, (wordB l own at_ i b f).2 = false → (wordB l own at_ i b f).1 = 0 := by
  induction f with
  | zero => intro b _; rfl
  | succ f ih =>
    intro b
    simp only [wordB]
    split
    · intro h; cases h
    · split
      · intro h; cases h
      · exact ih (b + 1)
theorem word2At_false (n : Ino) (at_ : Int) (own : List Nat) (i : Int) : (word2At n at_ own i).2 = false → (word2At n at_ own i).1 = 0 := by
  unfold word2At
  split
  · intro h; cases h
  · split
    · intro h; cases h
    · split
      · split
        · intro h; cases h
        · split
          · intro h; cases h
          · intro _; rfl
      · exact wordB_false _ _ _ _ 4 0

/-- What Read tells. -/
structure Laid2 (T : Sh) (i : Int) (m : Ino) (xs : List Nat) : Prop where
  len : xs.length = need2 m
  mem : ∀ b ∈ xs, 1 ≤ b ∧ b < 256
  pair : ∀ a b, a < b → b < xs.length → xs.getD a 0 ≠ xs.getD b 0
  ino : ∀ k : Nat, k < 8 → (word2At m (824 + i * 8) xs (824 + i * 8 + (k : Int))).1 = T.get (824 + i * 8 + (k : Int))
  blk : ∀ a, a < xs.length → ∀ r : Nat, r < 8 → (word2At m (824 + i * 8) xs (1080 + ((xs.getD a 0 : Nat) : Int) * 8 + (r : Int))).1 = T.get (1080 + ((xs.getD a 0 : Nat) : Int) * 8 + (r : Int))

theorem laid2_of {T : Sh} {i : Int} (hi : 0 ≤ i ∧ i < 32) {m : Ino} {xs : List Nat} (hob : ∀ b ∈ xs, b < 256) (he : ExactT T (824 + i * 8).toNat m xs) : Laid2 T i m xs := by
  obtain ⟨h1, h2, h3, h4⟩ := he
  have hat : (((824 + i * 8).toNat : Nat) : Int) = 824 + i * 8 := by omega
  rw [hat] at h4
  have ho : OwnOK xs xs.length := ⟨fun a ha => getD_lt hob a, fun a b hab hb => h2 a b hab hb⟩
  have hpw : ∀ j : Int, 820 ≤ j → j < 3128 → (put2S (Sh.new []) (824 + i * 8) m xs).get j = (word2At m (824 + i * 8) xs j).1 := fun j g1 g2 => put2_word _ (by omega) m xs hob ho h1 j ⟨g1, g2⟩ (fun _ => new_nil_get j)
  refine ⟨h1, fun b hb => ⟨?_, hob b hb⟩, h2, fun k hk => ?_, fun a ha r hr => ?_⟩
  · obtain ⟨q, hq, rfl⟩ := List.mem_iff_getElem.1 hb
    have := h3 q hq
    rw [List.getD_eq_getElem?_getD, List.getElem?_eq_getElem hq] at this
    simp only [Option.getD_some] at this
    omega
  · have h5 := h4 0 (by omega) k hk
    have e : (((frL (824 + i * 8).toNat xs).getD 0 0 : Nat) : Int) = 824 + i * 8 := hat
    rw [e] at h5
    rw [h5]
    exact (hpw _ (by omega) (by omega)).symm
  · have h5 := h4 (a + 1) (by omega) r hr
    have hx := getD_lt hob a
    have e : (((frL (824 + i * 8).toNat xs).getD (a + 1) 0 : Nat) : Int) = 1080 + ((xs.getD a 0 : Nat) : Int) * 8 := by
      unfold frL
      rw [List.getD_cons_succ, List.getD_eq_getElem?_getD, List.getElem?_map, List.getElem?_eq_getElem ha, List.getD_eq_getElem?_getD, List.getElem?_eq_getElem ha]
      simp
    rw [e] at h5
    rw [h5]
    exact (hpw _ (by omega) (by omega)).symm

theorem finR2_some {T : Sh} {a : Nat} {n m : Ino} {own xs : List Nat} (h : finR2 T a n own = some (m, xs)) : m = n ∧ xs = own ∧ RightP n ∧ ExactT T a n own := by
  unfold finR2 at h
  split at h
  · rename_i hc
    simp only [Option.some.injEq, Prod.mk.injEq] at h
    exact ⟨h.1.symm, h.2.symm, hc.1, hc.2⟩
  · cases h

theorem rd2_some {T : Sh} (hS : T.Ok) {i : Int} {m : Ino} {xs : List Nat} (h : rd2 T i = some (m, xs)) : (0 ≤ i ∧ i < 32) ∧ m.Ok ∧ RightP m ∧ m.format = 2 ∧ Laid2 T i m xs := by
  unfold rd2 at h
  by_cases hi : i < 0 ∨ 32 ≤ i
  · rw [if_pos hi] at h; cases h
  · rw [if_neg hi] at h
    have hi2 : 0 ≤ i ∧ i < 32 := by omega
    refine ⟨hi2, ?_⟩
    unfold rd2At at h
    by_cases hf : (headN T (((824 + i * 8).toNat : Nat) : Int)).format ≠ 2
    · rw [if_pos hf] at h; cases h
    · have hf2 : (headN T (((824 + i * 8).toNat : Nat) : Int)).format = 2 := Classical.not_not.1 hf
      rw [if_neg hf] at h
      split at h
      · cases hr : runs2 T (((824 + i * 8).toNat : Nat) : Int) with
        | none => rw [hr] at h; cases h
        | some r =>
          rw [hr, Option.bind_some] at h
          obtain ⟨l1, l2, l3⟩ := runs2_law hr
          obtain ⟨rfl, rfl, h1, h2⟩ := finR2_some h
          exact ⟨headN_blok hS _ l1 l2, h1, hf2, laid2_of hi2 l3 h2⟩
      · split at h
        · cases hr : names2To T (824 + i * 8).toNat 4 with
          | none => rw [hr] at h; cases h
          | some r =>
            rw [hr, Option.bind_some] at h
            obtain ⟨l1, l2⟩ := names2_law hS _ 4 r hr
            obtain ⟨rfl, rfl, h1, h2⟩ := finR2_some h
            exact ⟨headN_ents hS _ l1, h1, hf2, laid2_of hi2 l2 h2⟩
        · obtain ⟨rfl, rfl, h1, h2⟩ := finR2_some h
          exact ⟨headN_ok hS _, h1, hf2, laid2_of hi2 (fun b hb => by cases hb) h2⟩
end Go.Proofs.Ytlopdbhjdijlmaa

namespace Go.Proofs.Ytlopdbhjdijlmaa
set_option linter.unusedSimpArgs false
set_option linter.unusedVariables false

noncomputable def rstep (o : Option (List Int)) (x : Int) : Option (List Int) := o.bind fun l => if x = 0 then some l else if runB x = true then some (runSet l x) else none
theorem rfold_eq (ws : List Int) : ∀ k, k ≤ ws.length → rfold ws k = (ws.take k).foldl rstep (some (List.replicate 13 0)) := by
  intro k
  induction k with
  | zero => intro _; rfl
  | succ k ih =>
    intro hk
    have hlt : k < ws.length := by omega
    simp only [rfold]
    rw [ih (by omega), List.take_succ_eq_append_getElem hlt, List.foldl_append, List.foldl_cons, List.foldl_nil, List.getD_eq_getElem?_getD, List.getElem?_eq_getElem hlt]
    rfl
theorem rstep_zeros (o : Option (List Int)) : ∀ m, (List.replicate m (0 : Int)).foldl rstep o = o := by
  intro m
  induction m with
  | zero => rfl
  | succ m ih =>
    rw [List.replicate_succ, List.foldl_cons]
    have : rstep o 0 = o := by cases o <;> simp [rstep]
    rw [this, ih]
theorem rparts (A B n : Nat) (hA : A < 13) (hB : B < 256) (hn : n ≤ 13) : rA ((A : Int) * 4294967296 + (B : Int) * 256 + (n : Int)) = A ∧ rB ((A : Int) * 4294967296 + (B : Int) * 256 + (n : Int)) = B ∧ rN ((A : Int) * 4294967296 + (B : Int) * 256 + (n : Int)) = n := by
  unfold rA rB rN
  refine ⟨by omega, by omega, by omega⟩
theorem rstep_run (l : List Int) (A B n : Nat) (hA : A + n ≤ 13) (hB : B + n ≤ 256) (h1 : 1 ≤ B) (hn : 1 ≤ n) : rstep (some l) ((A : Int) * 4294967296 + (B : Int) * 256 + (n : Int)) = some (runTo l A B n) := by
  obtain ⟨e1, e2, e3⟩ := rparts A B n (by omega) (by omega) (by omega)
  have hok : runB ((A : Int) * 4294967296 + (B : Int) * 256 + (n : Int)) = true := (runB_iff _).2 (by unfold RunOk; rw [e1, e2, e3]; omega)
  unfold rstep
  rw [Option.bind_some, if_neg (by omega), if_pos hok]
  unfold runSet
  rw [e1, e2, e3]
def padL (l : List Int) (k : Nat) : List Int := l.take k ++ List.replicate (13 - k) 0
theorem padL_set (l : List Int) (k : Nat) (hl : l.length = 13) (hk : k < 13) (b : Int) (hb : l.getD k 0 = b) : (padL l k).set k b = padL l (k + 1) := by
  unfold padL
  have hkl : k < l.length := by omega
  have hz : List.replicate (13 - k) (0 : Int) = 0 :: List.replicate (13 - (k + 1)) 0 := by
    rw [show 13 - k = (13 - (k + 1)) + 1 by omega, List.replicate_succ]
  rw [hz, List.set_append_right _ _ (by rw [List.length_take]; omega), List.length_take, show k - min k l.length = 0 by omega, List.set_cons_zero, List.take_succ_eq_append_getElem hkl]
  rw [List.getD_eq_getElem?_getD, List.getElem?_eq_getElem hkl] at hb
  simp only [Option.getD_some] at hb
  rw [hb]
  simp
theorem padL_zero (l : List Int) (k : Nat) (hl : l.length = 13) (hk : k < 13) (hb : l.getD k 0 = 0) : padL l (k + 1) = padL l k := by
  unfold padL
  have hkl : k < l.length := by omega
  rw [show 13 - k = (13 - (k + 1)) + 1 by omega, List.replicate_succ, List.take_succ_eq_append_getElem hkl]
  rw [List.getD_eq_getElem?_getD, List.getElem?_eq_getElem hkl] at hb
  simp only [Option.getD_some] at hb
  rw [hb]
  simp

theorem runs_back (l : List Int) (hl : l.length = 13) (hb : ∀ k, k < 13 → 0 ≤ l.getD k 0 ∧ l.getD k 0 < 256) : ∀ k, k ≤ 13 →
    (RunsM.upto l k).1.foldl rstep (some (List.replicate 13 0)) = some (padL l k) ∧
    (0 < (RunsM.upto l k).2 → ∃ (xs : List Int) (A B n : Nat) (L0 : List Int), (RunsM.upto l k).1 = xs ++ [(A : Int) * 4294967296 + (B : Int) * 256 + (n : Int)] ∧ xs.foldl rstep (some (List.replicate 13 0)) = some L0 ∧ 1 ≤ n ∧ A + n = k ∧ 1 ≤ B ∧ (B : Int) + (n : Int) = (RunsM.upto l k).2 + 1 ∧ (RunsM.upto l k).2 < 256 ∧ runTo L0 A B n = padL l k) := by
  intro k
  induction k with
  | zero => intro _; exact ⟨by simp [RunsM.upto, padL], by simp [RunsM.upto]⟩
  | succ k ih =>
    intro hk
    obtain ⟨h1, h2⟩ := ih (by omega)
    have hbk := hb k (by omega)
    have hset := fun b => padL_set l k hl (by omega) b
    have hzero := padL_zero l k hl (by omega)
    simp only [RunsM.upto]
    generalize RunsM.upto l k = s at *
    generalize l.getD k 0 = b at *
    unfold RunsM.step
    by_cases c1 : b < 1 ∨ 256 ≤ b
    · rw [if_pos c1]
      refine ⟨?_, by simp⟩
      rw [hzero (by omega)]
      exact h1
    · rw [if_neg c1]
      by_cases c2 : 0 < s.2 ∧ b = s.2 + 1
      · rw [if_pos c2]
        obtain ⟨xs, A, B, n, L0, e1, e2, e3, e4, e5, e6, e7, e8⟩ := h2 c2.1
        have hx : (A : Int) * 4294967296 + (B : Int) * 256 + (n : Int) + 1 = (A : Int) * 4294967296 + (B : Int) * 256 + ((n + 1 : Nat) : Int) := by omega
        have hrt : runTo L0 A B (n + 1) = padL l (k + 1) := by
          simp only [runTo]
          rw [e8, e4, show ((B + n : Nat) : Int) = b by omega]
          exact hset b rfl
        simp only [e1, RunsM.bump_snoc, hx]
        refine ⟨?_, fun _ => ⟨xs, A, B, n + 1, L0, rfl, e2, by omega, by omega, e5, by omega, by omega, hrt⟩⟩
        rw [List.foldl_append, e2, List.foldl_cons, List.foldl_nil, rstep_run L0 A B (n + 1) (by omega) (by omega) e5 (by omega), hrt]
      · rw [if_neg c2]
        have hx : RunsM.enc k b = ((k : Nat) : Int) * 4294967296 + ((b.toNat : Nat) : Int) * 256 + ((1 : Nat) : Int) := by unfold RunsM.enc; omega
        have hrt : runTo (padL l k) k b.toNat 1 = padL l (k + 1) := by
          simp only [runTo]
          rw [Nat.add_zero, show ((b.toNat + 0 : Nat) : Int) = b by omega]
          exact hset b rfl
        simp only [hx]
        refine ⟨?_, fun _ => ⟨s.1, k, b.toNat, 1, padL l k, rfl, h1, by omega, by omega, by omega, by omega, by omega, hrt⟩⟩
        rw [List.foldl_append, h1, List.foldl_cons, List.foldl_nil, rstep_run (padL l k) k b.toNat 1 (by omega) (by omega) (by omega) (by omega), hrt]

theorem rfold_runs (l : List Int) (hl : l.length = 13) (hb : ∀ k, k < 13 → 0 ≤ l.getD k 0 ∧ l.getD k 0 < 256) (m : Nat) : rfold (RunsM.runs l ++ List.replicate m 0) (RunsM.runs l ++ List.replicate m 0).length = some l := by
  rw [rfold_eq _ _ (Nat.le_refl _), List.take_length, List.foldl_append, rstep_zeros]
  have := (runs_back l hl hb 13 (by omega)).1
  unfold padL at this
  rw [show 13 - 13 = 0 by omega, List.replicate_zero, List.append_nil, List.take_of_length_le (by omega)] at this
  exact this

theorem bl_eq : ∀ (x y : List UInt8), Op.bytesLess x y = decide (x < y)
  | [], [] => by simp [Op.bytesLess]
  | _ :: _, [] => by simp [Op.bytesLess]
  | [], _ :: _ => by simp [Op.bytesLess]
  | a :: x, b :: y => by
    rw [Op.bytesLess, bl_eq x y]
    simp only [List.cons_lt_cons_iff]
    by_cases h1 : a < b <;> by_cases h2 : a = b <;> by_cases h3 : x < y <;> simp [h1, h2, h3]
theorem bl_irrefl (x : List UInt8) : Op.bytesLess x x = false := by rw [bl_eq]; exact decide_eq_false (List.lt_irrefl x)
theorem bl_trans {x y z : List UInt8} (h1 : Op.bytesLess x y = true) (h2 : Op.bytesLess y z = true) : Op.bytesLess x z = true := by
  rw [bl_eq] at *
  exact decide_eq_true (List.lt_trans (of_decide_eq_true h1) (of_decide_eq_true h2))
theorem bl_asymm {x y : List UInt8} (h1 : Op.bytesLess x y = true) : Op.bytesLess y x = false := by
  rw [bl_eq] at *
  exact decide_eq_false (List.lt_asymm (of_decide_eq_true h1))
theorem bl_total {x y : List UInt8} (h1 : Op.bytesLess x y = false) (h2 : (x == y) = false) : Op.bytesLess y x = true := by
  rw [bl_eq] at *
  refine decide_eq_true ?_
  have h1 := of_decide_eq_false h1
  have h2 : x ≠ y := by simpa using h2
  exact Classical.byContradiction fun h3 => h2 (List.le_antisymm (List.not_lt.1 h3) (List.not_lt.1 h1))


theorem ltE_irrefl (x : En) : ltE x x = false := bl_irrefl _
theorem ltE_asymm {x y : En} (h : ltE x y = true) : ltE y x = false := bl_asymm h
theorem ins_mid {A B : List En} {x : En} (hE1 : ∀ a ∈ A, ltE a x = true) (hE2 : ∀ b ∈ B, ltE b x = false) : insL (A ++ B) x = A ++ x :: B := by
  have hk : insK (A ++ B) x = A.length := by
    unfold insK
    rw [List.takeWhile_append_of_pos hE1]
    cases B with
    | nil => simp
    | cons b B => rw [List.takeWhile_cons_of_neg (by rw [hE2 b (by simp)]; decide), List.append_nil]
  unfold insL
  rw [hk, List.take_left, List.drop_left]

theorem ins_filter {E : List En} (hE : E.Pairwise (fun a b => ltE a b = true)) {x : En} (hx : x ∈ E) (p p' : En → Bool) (hp : p x = false) (hp' : p' x = true) (hpp : ∀ y ∈ E, y ≠ x → p' y = p y) :
    insL (E.filter p) x = E.filter p' := by
  obtain ⟨E1, E2, rfl⟩ := List.append_of_mem hx
  rw [List.pairwise_append, List.pairwise_cons] at hE
  obtain ⟨h1, ⟨h2, h3⟩, h4⟩ := hE
  have n1 : ∀ y ∈ E1, y ≠ x := fun y hy e => by have := h4 y hy x (by simp); rw [e, ltE_irrefl] at this; cases this
  have n2 : ∀ y ∈ E2, y ≠ x := fun y hy e => by have := h2 y hy; rw [e, ltE_irrefl] at this; cases this
  rw [List.filter_append, List.filter_cons_of_neg (by rw [hp]; decide), List.filter_append, List.filter_cons_of_pos hp', ins_mid (fun a ha => h4 a (List.mem_filter.1 ha).1 x (by simp)) (fun b hb => ltE_asymm (h2 b (List.mem_filter.1 hb).1)),
    List.filter_congr (fun y hy => (hpp y (by simp [hy]) (n1 y hy)).symm), List.filter_congr (fun y hy => (hpp y (by simp [hy]) (n2 y hy)).symm)]

open Classical in
theorem ins_fold {E : List En} (hE : E.Pairwise (fun a b => ltE a b = true)) : ∀ (X : List En) (p p' : En → Bool), (∀ x ∈ X, x ∈ E ∧ p x = false) → X.Pairwise (· ≠ ·) → (∀ y ∈ E, p' y = (p y || decide (y ∈ X))) →
    X.foldl (insL) (E.filter p) = E.filter p' := by
  intro X
  induction X with
  | nil =>
    intro p p' _ _ h
    exact List.filter_congr (fun y hy => by rw [h y hy]; simp)
  | cons x X ih =>
    intro p p' h1 h2 h3
    obtain ⟨hx, hpx⟩ := h1 x (by simp)
    rw [List.pairwise_cons] at h2
    rw [List.foldl_cons, ins_filter hE hx p (fun y => p y || decide (y = x)) hpx (by simp) (fun y _ hne => by simp [hne])]
    refine ih _ _ (fun z hz => ⟨(h1 z (by simp [hz])).1, ?_⟩) h2.2 (fun y hy => ?_)
    · have := h2.1 z hz
      simp [(h1 z (by simp [hz])).2, Ne.symm this]
    · rw [h3 y hy]
      simp [Bool.or_assoc]

theorem pairE {l : List En} (h : EntsTo l l.length) : l.Pairwise (fun a b => ltE a b = true) := by
  rw [List.pairwise_iff_getElem]
  have hcons : ∀ i (hi : i + 1 < l.length), ltE l[i] l[i + 1] = true := fun i hi => by
    obtain ⟨-, h2, -, -⟩ := h (i + 1) hi
    unfold leS prevN at h2
    rw [if_neg (by omega), Nat.add_sub_cancel, List.getD_eq_getElem?_getD, List.getElem?_eq_getElem hi, List.getD_eq_getElem?_getD, List.getElem?_eq_getElem (by omega)] at h2
    simp only [Option.getD_some, Bool.or_eq_false_iff] at h2
    exact bl_total h2.1 h2.2
  intro i j hi hj hij
  obtain ⟨d, rfl⟩ : ∃ d, j = i + 1 + d := ⟨j - i - 1, by omega⟩
  clear hij
  induction d with
  | zero => exact hcons i hj
  | succ d ih => exact bl_trans (ih (by omega)) (hcons (i + 1 + d) hj)

theorem nword_ne {s : ByteArray} (hg : goodB s.data.toList = true) : (nword s : Nat) ≠ 0 := by
  intro e
  have h1 := byte7_nword (good_size hg).2
  rw [e] at h1
  have h2 := (good_size hg).1
  have h3 : PackM.byteAt 0 7 = 0 := by decide
  omega

theorem entsC_laid {T : Sh} {b a : Nat} {l : List En} (hg : ∀ k, k < l.length → goodB (l.getD k default).name.data.toList = true ∧ 0 ≤ (l.getD k default).ino ∧ (l.getD k default).ino < 32)
    (h1 : ∀ k : Nat, k < 3 → T.get (1080 + (b : Int) * 8 + 1 + 2 * (k : Int)) = if 3 * a + k < l.length then ((nword (l.getD (3 * a + k) default).name : Nat) : Int) else 0)
    (h2 : ∀ k : Nat, k < 3 → 3 * a + k < l.length → T.get (1080 + (b : Int) * 8 + 2 + 2 * (k : Int)) = (l.getD (3 * a + k) default).ino) : ∀ f k, f + k = 3 → entsC T b f k (l.take (3 * a + k)) = some (l.take (3 * a + 3)) := by
  intro f
  induction f with
  | zero => intro k hk; rw [show k = 3 by omega]; rfl
  | succ f ih =>
    intro k hk
    simp only [entsC]
    rw [h1 k (by omega)]
    by_cases hlt : 3 * a + k < l.length
    · obtain ⟨g1, g2, g3⟩ := hg _ hlt
      have hne := nword_ne g1
      rw [if_pos hlt, if_neg (by omega), h2 k (by omega) hlt, if_pos ⟨by rw [Int.toNat_natCast]; exact isName_nword g1, g3⟩, Int.toNat_natCast, wtext_nword (good_size g1).2]
      have e : l.take (3 * a + k) ++ [⟨(l.getD (3 * a + k) default).name, (l.getD (3 * a + k) default).ino⟩] = l.take (3 * a + (k + 1)) := by
        rw [← Nat.add_assoc, List.take_succ_eq_append_getElem hlt, List.getD_eq_getElem?_getD, List.getElem?_eq_getElem hlt]
        rfl
      rw [e]
      exact ih (k + 1) (by omega)
    · rw [if_neg hlt, if_pos rfl, List.take_of_length_le (by omega), List.take_of_length_le (by omega)]

theorem numI_nat (x : Nat) (h : x < 256) : numI (x : Int) = x := by unfold numI; rw [if_neg (by omega)]; omega

theorem chainC_laid {T : Sh} {l : List En} {o : List Nat} (hl : l.length ≤ 24) (hd : o.length = (l.length + 2) / 3) (ho : ∀ a, a < o.length → 1 ≤ o.getD a 0 ∧ o.getD a 0 < 256)
    (hg : ∀ k, k < l.length → goodB (l.getD k default).name.data.toList = true ∧ 0 ≤ (l.getD k default).ino ∧ (l.getD k default).ino < 32)
    (hB : ∀ a, a < o.length → ∀ r : Nat, r < 8 → T.get (1080 + ((o.getD a 0 : Nat) : Int) * 8 + (r : Int)) = wd3 l o 0 o.length a r) : ∀ f a, f + a = 26 → a ≤ o.length → chainC T f (o.getD a 0) (l.take (3 * a)) (o.take a) = some (l, o) := by
  intro f
  induction f with
  | zero => intro a h1 h2; omega
  | succ f ih =>
    intro a h1 h2
    simp only [chainC]
    by_cases e : a = o.length
    · have h0 : o.getD a 0 = 0 := by rw [List.getD_eq_getElem?_getD, List.getElem?_eq_none (by omega)]; rfl
      rw [h0, if_pos rfl, List.take_of_length_le (by omega), List.take_of_length_le (by omega)]
    · have hao : a < o.length := by omega
      obtain ⟨g1, g2⟩ := ho a hao
      rw [if_neg (by omega), if_neg (by rw [List.length_take]; omega)]
      have hw := hB a hao
      have he := entsC_laid (T := T) (b := o.getD a 0) (a := a) hg (fun k hk => by
        have := hw (1 + 2 * k) (by omega)
        rw [show 1080 + ((o.getD a 0 : Nat) : Int) * 8 + 1 + 2 * (k : Int) = 1080 + ((o.getD a 0 : Nat) : Int) * 8 + ((1 + 2 * k : Nat) : Int) by omega, this]
        unfold wd3
        rw [if_neg (by omega), if_neg (by omega), show (1 + 2 * k - 1) / 2 = k by omega]
        by_cases hlt : 3 * a + k < l.length
        · rw [if_pos hlt, if_pos hlt, if_pos (by omega)]
        · rw [if_neg hlt, if_neg hlt]) (fun k hk hlt => by
        have := hw (2 + 2 * k) (by omega)
        rw [show 1080 + ((o.getD a 0 : Nat) : Int) * 8 + 2 + 2 * (k : Int) = 1080 + ((o.getD a 0 : Nat) : Int) * 8 + ((2 + 2 * k : Nat) : Int) by omega, this]
        unfold wd3
        rw [if_neg (by omega), if_neg (by omega), show (2 + 2 * k - 1) / 2 = k by omega, if_pos hlt, if_neg (by omega)]) 3 0 (by omega)
      rw [Nat.add_zero] at he
      rw [he, Option.bind_some]
      have hnx : numI (T.get (1080 + ((o.getD a 0 : Nat) : Int) * 8)) = o.getD (a + 1) 0 := by
        have := hw 0 (by omega)
        rw [show 1080 + ((o.getD a 0 : Nat) : Int) * 8 + ((0 : Nat) : Int) = 1080 + ((o.getD a 0 : Nat) : Int) * 8 by omega] at this
        rw [this]
        unfold wd3
        rw [if_pos rfl]
        by_cases h3 : a + 1 < o.length
        · rw [if_pos h3, Nat.zero_add, numI_nat _ (ho _ h3).2]
        · rw [if_neg h3, List.getD_eq_getElem?_getD, List.getElem?_eq_none (by omega)]
          rfl
      have hta : o.take a ++ [o.getD a 0] = o.take (a + 1) := by
        rw [List.take_succ_eq_append_getElem hao, List.getD_eq_getElem?_getD, List.getElem?_eq_getElem hao]
        rfl
      rw [hnx, hta, show 3 * a + 3 = 3 * (a + 1) by omega]
      exact ih (a + 1) (by omega) (by omega)

theorem names2_laid {T : Sh} {at_ : Nat} (ha : 820 ≤ at_ ∧ at_ ≤ 1072) {E : List En} (hE : EntsTo E E.length) (hl : E.length ≤ 24) {own : List Nat} (hon : own.length = sumB E 4) (ho : ∀ a, a < own.length → 1 ≤ own.getD a 0 ∧ own.getD a 0 < 256)
    (hN : ∀ b : Nat, b < 4 → T.get ((at_ : Int) + 2 + (b : Int)) = (((ownB E own b).getD 0 0 : Nat) : Int))
    (hB : ∀ b, b < 4 → ∀ a, a < dB E b → ∀ r : Nat, r < 8 → T.get (1080 + ((own.getD (sumB E b + a) 0 : Nat) : Int) * 8 + (r : Int)) = wd3 (bktL E b) own (sumB E b) (dB E b) a r) : ∀ k, k ≤ 4 →
    names2To T at_ k = some (E.filter (fun y => decide (bucketOf y.name < k)), own.take (sumB E k)) := by
  have hpw := pairE hE
  intro k
  induction k with
  | zero =>
    intro _
    simp only [names2To]
    rw [show E.filter (fun y => decide (bucketOf y.name < 0)) = [] from List.filter_eq_nil_iff.2 (fun y _ => by simp)]
    simp [sumB]
  | succ k ih =>
    intro hk
    have hs1 : sumB E (k + 1) = sumB E k + dB E k := rfl
    have hso : sumB E (k + 1) ≤ own.length := by rw [hon]; exact sumB_mono E hk
    have hol := ownB_length (l := E) (own := own) hso
    simp only [names2To]
    rw [ih (by omega), Option.bind_some]
    unfold namesStep2
    rw [hN k (by omega)]
    have hhd : (ownB E own k).getD 0 0 < 256 := by
      by_cases h0 : 0 < dB E k
      · rw [ownB_get h0]; exact (ho _ (by omega)).2
      · rw [List.getD_eq_getElem?_getD, List.getElem?_eq_none (by omega)]; decide
    rw [numI_nat _ hhd]
    have hch := chainC_laid (T := T) (l := bktL E k) (o := ownB E own k) (Nat.le_trans (bktL_len E k) hl) hol (fun a ha => by rw [ownB_get (by omega)]; exact ho _ (by omega))
      (fun q hq => by
        have hm : (bktL E k).getD q default ∈ E := by
          rw [List.getD_eq_getElem?_getD, List.getElem?_eq_getElem hq]
          exact (List.mem_filter.1 (List.getElem_mem hq)).1
        obtain ⟨j, hj, he⟩ := List.mem_iff_getElem.1 hm
        have := hE j hj
        unfold entOK at this
        rw [List.getD_eq_getElem?_getD, List.getElem?_eq_getElem hj] at this
        rw [← he]
        exact ⟨this.1, this.2.2.1, this.2.2.2⟩)
      (fun a ha r hr => by rw [ownB_get (by omega), hB k (by omega) a (by omega) r hr, hol, wd3_ownB]) 26 0 (by omega) (by omega)
    have hch2 : chain2 T ((ownB E own k).getD 0 0) = some (bktL E k, ownB E own k) := by
      unfold chain2
      simpa using hch
    rw [hch2, Option.bind_some]
    have hfold : (bktL E k).foldl insL (E.filter (fun y => decide (bucketOf y.name < k))) = E.filter (fun y => decide (bucketOf y.name < k + 1)) := by
      refine ins_fold hpw (bktL E k) _ _ (fun x hx => ?_) ?_ (fun y hy => ?_)
      · unfold bktL at hx
        obtain ⟨h1, h2⟩ := List.mem_filter.1 hx
        simp only [decide_eq_true_eq] at h2
        exact ⟨h1, by simp [h2]⟩
      · unfold bktL
        refine (hpw.filter _).imp (fun {a b} hab e => ?_)
        rw [e, ltE_irrefl] at hab
        cases hab
      · have hiff : y ∈ bktL E k ↔ bucketOf y.name = k := by
          unfold bktL
          rw [List.mem_filter]
          simp [hy]
        by_cases h1 : bucketOf y.name < k
        · simp [h1, show bucketOf y.name < k + 1 by omega]
        · by_cases h2 : bucketOf y.name = k
          · simp [h2, hiff]
          · simp [h1, hiff, h2, show ¬ bucketOf y.name < k + 1 by omega]
    have hlen : (E.filter (fun y => decide (bucketOf y.name < k))).length + (bktL E k).length ≤ 24 := by
      rw [← foldl_ins_len, hfold]
      exact Nat.le_trans (List.length_filter_le _ _) hl
    dsimp only
    rw [if_neg (by omega), hfold, hs1, List.take_add]
    rfl


theorem tagW_parts2 {n : Ino} (hf : n.format = 2) (hk : 0 ≤ n.kind ∧ n.kind < 256) (hl : 0 ≤ n.links ∧ n.links < 65536) : tagW n % 256 = n.format ∧ tagW n / 256 % 256 = n.kind ∧ tagW n / 65536 % 65536 = n.links := by
  unfold tagW
  omega

theorem list_one {own : List Nat} (h : own.length = 1) : own = [own.getD 0 0] := by
  match own, h with
  | [a], _ => rfl

theorem range_map_pad {R : List Int} (f : Nat → Int) (m : Nat) (h : R.length ≤ m) (hf : ∀ k, k < m → f k = R.getD k 0) : (List.range m).map f = R ++ List.replicate (m - R.length) 0 := by
  apply List.ext_getElem
  · simp; omega
  · intro k h1 h2
    have hk : k < m := by simpa using h1
    rw [List.getElem_map, List.getElem_range, hf k hk, List.getElem_append]
    split
    · rename_i hlt
      rw [List.getD_eq_getElem?_getD, List.getElem?_eq_getElem hlt]
      rfl
    · rename_i hge
      rw [List.getD_eq_getElem?_getD, List.getElem?_eq_none (by omega), List.getElem_replicate]
      rfl

theorem rd2_laid {T : Sh} {i : Int} (hi : 0 ≤ i ∧ i < 32) {n : Ino} {xs : List Nat} (h : Laid2 T i n xs) (hr : RightP n) (hf : n.format = 2) (hl : n.bl.length = 13) : rd2 T i = some (n, xs) := by
  obtain ⟨at_, hat⟩ : ∃ at_ : Nat, at_ = (824 + i * 8).toNat := ⟨_, rfl⟩
  have hati : 824 + i * 8 = (at_ : Int) := by omega
  have ha : 820 ≤ at_ ∧ at_ ≤ 1072 := by omega
  have hob : ∀ b ∈ xs, b < 256 := fun b hb => (h.mem b hb).2
  have ho : OwnOK xs xs.length := ⟨fun a ha => getD_lt hob a, fun a b hab hb => h.pair a b hab hb⟩
  have hpos : ∀ a, a < xs.length → 1 ≤ xs.getD a 0 ∧ xs.getD a 0 < 256 := fun a ha => h.mem _ (getD_in0 ha)
  have hino := h.ino
  have hblk := h.blk
  rw [hati] at hino hblk
  obtain ⟨s1, s2, s3, s4, s5⟩ := hr.small
  obtain ⟨t1, t2, t3⟩ := tagW_parts2 hf s2 s3
  have w0 : T.get (at_ : Int) = tagW n := by
    have := hino 0 (by omega)
    rw [show (at_ : Int) + ((0 : Nat) : Int) = (at_ : Int) by omega] at this
    rw [← this]; unfold word2At; rw [if_pos rfl]
  have w1 : T.get ((at_ : Int) + 1) = n.size := by
    have := hino 1 (by omega)
    rw [show (at_ : Int) + ((1 : Nat) : Int) = (at_ : Int) + 1 by omega] at this
    rw [← this]; unfold word2At; rw [if_neg (by omega), if_pos rfl]
  have hhead : headN T (at_ : Int) = ⟨n.format, n.kind, n.links, n.size, List.replicate 13 0, []⟩ := by
    unfold headN
    rw [w0, w1, t1, t2, t3, if_neg (by omega)]
  have hpw : ∀ j : Int, 820 ≤ j → j < 3128 → (put2S (Sh.new []) (at_ : Int) n xs).get j = (word2At n (at_ : Int) xs j).1 := fun j g1 g2 => put2_word _ (by omega) n xs hob ho h.len j ⟨g1, g2⟩ (fun _ => new_nil_get j)
  have hex : ExactT T at_ n xs := by
    refine ⟨h.len, h.pair, fun k hk => by have := hpos k hk; omega, fun j hj => ?_⟩
    intro r hr
    cases j with
    | zero =>
      have e : (((frL at_ xs).getD 0 0 : Nat) : Int) = (at_ : Int) := rfl
      rw [e, ← hino r hr]
      exact (hpw _ (by omega) (by omega)).symm
    | succ a =>
      have hax : a < xs.length := by omega
      have hx := hpos a hax
      have e : (((frL at_ xs).getD (a + 1) 0 : Nat) : Int) = 1080 + ((xs.getD a 0 : Nat) : Int) * 8 := by
        unfold frL
        rw [List.getD_cons_succ, List.getD_eq_getElem?_getD, List.getElem?_map, List.getElem?_eq_getElem hax, List.getD_eq_getElem?_getD, List.getElem?_eq_getElem hax]
        simp
      rw [e, ← hblk a hax r hr]
      exact (hpw _ (by omega) (by omega)).symm
  have hfin : finR2 T at_ n xs = some (n, xs) := by unfold finR2; rw [if_pos ⟨hr, hex⟩]
  unfold rd2
  rw [if_neg (by omega), ← hat]
  unfold rd2At
  rw [hhead]
  dsimp only
  rw [if_neg (by rw [hf]; decide)]
  rcases hr.2.2.2 with ⟨hk, hF⟩ | ⟨hk, hD⟩
  · rw [if_pos hk]
    obtain ⟨hbl, -, -, hen⟩ := hF
    have hb : ∀ k, k < 13 → 0 ≤ n.bl.getD k 0 ∧ n.bl.getD k 0 < 256 := fun k hk => (hbl k hk).1
    have hRl := runs_len n.bl
    have hRb := (RunsM.fit_upto n.bl 13).each
    have hw : ∀ q : Nat, q < 6 → T.get ((at_ : Int) + 2 + (q : Int)) = fileV (RunsM.runs n.bl) xs q := fun q hq => by
      have := hino (2 + q) (by omega)
      rw [show (at_ : Int) + ((2 + q : Nat) : Int) = (at_ : Int) + 2 + (q : Int) by omega] at this
      rw [← this]
      unfold word2At
      rw [if_neg (by omega), if_neg (by omega), if_pos hk, if_pos (by omega), show ((at_ : Int) + 2 + (q : Int) - (at_ : Int) - 2).toNat = q by omega]
    have hru : runs2 T (at_ : Int) = some (n.bl, xs) := by
      have hlx := h.len
      unfold need2 at hlx
      rw [if_pos hk] at hlx
      have h7 := hw 5 (by omega)
      rw [show (at_ : Int) + 2 + ((5 : Nat) : Int) = (at_ : Int) + 7 by omega] at h7
      by_cases h6 : 6 < (RunsM.runs n.bl).length
      · rw [if_pos h6] at hlx
        have hne : xs ≠ [] := fun e => by rw [e] at hlx; cases hlx
        have hx := hpos 0 (by omega)
        have h8 : T.get ((at_ : Int) + 7) = 9223372036854775808 + ((xs.getD 0 0 : Nat) : Int) := by rw [h7]; unfold fileV; rw [if_neg hne, if_pos rfl]
        have hnum : numI (T.get ((at_ : Int) + 7) - 9223372036854775808) = xs.getD 0 0 := by rw [h8, show 9223372036854775808 + ((xs.getD 0 0 : Nat) : Int) - 9223372036854775808 = ((xs.getD 0 0 : Nat) : Int) by omega]; exact numI_nat _ hx.2
        have hbw : ∀ r : Nat, r < 8 → T.get (1080 + ((xs.getD 0 0 : Nat) : Int) * 8 + (r : Int)) = (RunsM.runs n.bl).getD (5 + r) 0 := fun r hr => by
          rw [← hblk 0 (by omega) r hr]
          unfold word2At
          rw [if_neg (by omega), if_neg (by omega), if_pos hk, if_neg (by omega), if_pos ⟨hne, by omega, by omega⟩]
          dsimp only
          rw [show (1080 + ((xs.getD 0 0 : Nat) : Int) * 8 + (r : Int) - 1080 - 8 * ((xs.getD 0 0 : Nat) : Int)).toNat = r by omega]
          unfold fileV
          rw [if_neg hne, if_neg (by omega), if_pos (by omega), show 6 + r - 1 = 5 + r by omega]
        have hwords : wordsR T (at_ : Int) = RunsM.runs n.bl ++ List.replicate (13 - (RunsM.runs n.bl).length) 0 := by
          unfold wordsR sixR
          rw [if_pos (by rw [h8]; omega), hnum, ← range_map_pad (fun k => (RunsM.runs n.bl).getD k 0) 13 hRl (fun k _ => rfl)]
          rw [← List.map_take, List.take_range]
          rw [show List.range 13 = List.range 5 ++ (List.range 8).map (fun x => 5 + x) from by decide, List.map_append, List.map_map]
          refine congr (congrArg HAppend.hAppend ?_) ?_
          · refine List.map_congr_left (fun k hk => ?_)
            have hk5 : k < 5 := by simpa using hk
            rw [hw k (by omega)]
            unfold fileV
            rw [if_neg hne, if_neg (by omega), if_neg (by omega)]
          · refine List.map_congr_left (fun k hk => ?_)
            have hk8 : k < 8 := by simpa using hk
            exact hbw k hk8
        have hown : ownR T (at_ : Int) = xs := by
          unfold ownR
          rw [if_pos (by rw [h8]; omega), hnum]
          exact (list_one hlx).symm
        unfold runs2
        rw [hwords, rfold_runs n.bl hl hb, Option.map_some, hown]
      · rw [if_neg h6] at hlx
        have hnil : xs = [] := List.eq_nil_of_length_eq_zero hlx
        have hv : ∀ q : Nat, q < 6 → fileV (RunsM.runs n.bl) xs q = (RunsM.runs n.bl).getD q 0 := fun q hq => by unfold fileV; rw [if_pos hnil, if_pos hq]
        have hlt : T.get ((at_ : Int) + 7) < 9223372036854775808 := by
          rw [h7, hv 5 (by omega)]
          by_cases h5 : 5 < (RunsM.runs n.bl).length
          · have := hRb _ (show (RunsM.runs n.bl).getD 5 0 ∈ (RunsM.upto n.bl 13).1 by
              rw [List.getD_eq_getElem?_getD, List.getElem?_eq_getElem h5]
              exact List.getElem_mem h5)
            omega
          · rw [List.getD_eq_getElem?_getD, List.getElem?_eq_none (by omega)]
            decide
        have hwords : wordsR T (at_ : Int) = RunsM.runs n.bl ++ List.replicate (6 - (RunsM.runs n.bl).length) 0 := by
          unfold wordsR sixR
          rw [if_neg (by omega)]
          exact range_map_pad _ 6 (by omega) (fun k hk => by rw [hw k hk, hv k hk])
        have hown : ownR T (at_ : Int) = xs := by
          unfold ownR
          rw [if_neg (by omega), hnil]
        unfold runs2
        rw [hwords, rfold_runs n.bl hl hb, Option.map_some, hown]
    rw [hru, Option.bind_some]
    have e : (⟨n.format, n.kind, n.links, n.size, n.bl, []⟩ : Ino) = n := by rw [← hen]
    rw [e]
    exact hfin
  · rw [if_neg (by omega), if_pos hk]
    obtain ⟨hE, hE24, -, hbl0⟩ := hD
    have hlx : xs.length = sumB n.ents 4 := by rw [h.len]; unfold need2; rw [if_neg (by omega)]
    have hk1 : ¬ n.kind = 1 := by omega
    have hnm : names2To T at_ 4 = some (n.ents, xs) := by
      rw [names2_laid ha hE hE24 hlx hpos (fun b hb => ?_) (fun b hb a hab r hr => ?_) 4 (by omega)]
      · refine congrArg some (Prod.ext ?_ ?_)
        · exact List.filter_eq_self.2 (fun y _ => by have := bucketOf_lt y.name; simpa using this)
        · exact List.take_of_length_le (by omega)
      · have := hino (2 + b) (by omega)
        rw [show (at_ : Int) + ((2 + b : Nat) : Int) = (at_ : Int) + 2 + (b : Int) by omega] at this
        rw [← this]
        unfold word2At
        rw [if_neg (by omega), if_neg (by omega), if_neg hk1, wordB_num n.ents xs (by omega) b hb 4 0 (by omega) (by omega), ownB_head]
      · have hs1 : sumB n.ents (b + 1) = sumB n.ents b + dB n.ents b := rfl
        have hso : sumB n.ents (b + 1) ≤ xs.length := by rw [hlx]; exact sumB_mono n.ents (by omega)
        have hx := hpos (sumB n.ents b + a) (by omega)
        rw [← hblk (sumB n.ents b + a) (by omega) r hr]
        unfold word2At
        rw [if_neg (by omega), if_neg (by omega), if_neg hk1, wordB_blk n.ents xs (by omega) ho b a r hso hb hab hr _ rfl 4 0 (by omega) (by omega) (by omega)]
    rw [hnm, Option.bind_some]
    have hbl : n.bl = List.replicate 13 0 := by
      apply List.ext_getElem
      · simp [hl]
      · intro k h1 h2
        have := hbl0 k (by omega)
        rw [List.getD_eq_getElem?_getD, List.getElem?_eq_getElem h1] at this
        rw [List.getElem_replicate]
        exact this
    have e : (⟨n.format, n.kind, n.links, n.size, List.replicate 13 0, n.ents⟩ : Ino) = n := by rw [← hbl]
    dsimp only
    rw [e]
    exact hfin

/-- An inode's own blocks, where it is laid. -/
noncomputable def own2S (S : Sh) (n : Ino) : List Nat := (takeFrom 255 S 1 (need2 n)).2

theorem lay2S_laid (S : Sh) (i : Int) (hi : 0 ≤ i ∧ i < 32) (n : Ino) (hfree : need2 n ≤ freeN S) : Laid2 (lay2S S i n) i n (own2S S n) := by
  have h := tookN S (need2 n) hfree
  have hob : ∀ b ∈ own2S S n, b < 256 := fun b hb => (h.mem b hb).2.1
  have hap : ApartTo (own2S S n) (own2S S n).length := apartTo_pair h.pair
  have ho : OwnOK (own2S S n) (own2S S n).length := ⟨fun a ha => getD_lt hob a, fun a b hab hb => hap a b hab hb⟩
  refine ⟨h.len, fun b hb => ⟨(h.mem b hb).1, hob b hb⟩, hap, fun k hk => ?_, fun a ha r hr => ?_⟩
  · unfold lay2S
    exact (put2_word _ (by omega) n (own2S S n) hob ho h.len _ (by omega) (fun hh => by omega)).symm
  · have hx := getD_lt hob a
    unfold lay2S
    have hx2 : (own2S S n).getD a 0 < 256 := hx
    generalize hg : (own2S S n).getD a 0 = x at *
    exact (put2_word _ (by omega) n (own2S S n) hob ho h.len _ (by omega) (fun _ => by rw [← hg]; exact h.zero _ (getD_in0 ha) r hr)).symm
theorem lay2S_out (S : Sh) (i : Int) (hi : 0 ≤ i ∧ i < 32) (n : Ino) (hfree : need2 n ≤ freeN S) (j : Int) (h8 : 820 ≤ j) (hj : j < 824 + i * 8 ∨ 832 + i * 8 ≤ j) (hx : ∀ x ∈ own2S S n, j < 1080 + (x : Int) * 8 ∨ 1088 + (x : Int) * 8 ≤ j) : (lay2S S i n).get j = S.get j := by
  have h := tookN S (need2 n) hfree
  have hob : ∀ b ∈ own2S S n, b < 256 := fun b hb => (h.mem b hb).2.1
  unfold lay2S
  have := put2_out (takeFrom 255 S 1 (need2 n)).1 (at_ := 824 + i * 8) (by omega) n (own2S S n) hob h.len j (by omega) (fun a ha => hx _ (getD_in0 ha))
  refine Eq.trans this ?_
  exact h.out j h8 hx
end Go.Proofs.Ytlopdbhjdijlmaa
