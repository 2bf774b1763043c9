/-
  What each word is where an inode was laid in the second format; what Read tells is laid: plain lemmas. Nothing is assumed.
-/
import Derived.Test.YtfpnmphmngdkdaaQRefWord2
import Derived.Test.YtfpnmphmngdkdaaQLayGet
import Derived.Test.YtfpnmphmngdkdaaQRd2M

namespace Go.Proofs.Ytfpnmphmngdkdaa
set_option linter.unusedSimpArgs false
set_option linter.unusedVariables false

theorem putN_get (S : Sh) (base : Int) (f : Nat → Int) (h0 : 0 ≤ base) : ∀ k : Nat, base + (k : Int) ≤ 3128 → ∀ j, (putN S base f k).get j = if base ≤ j ∧ j < base + (k : Int) then f (j - base).toNat else S.get j := by
  intro k
  induction k with
  | zero => intro _ j; rw [if_neg (by omega)]; rfl
  | succ k ih =>
    intro hk j
    simp only [putN]
    by_cases e : j = base + (k : Int)
    · rw [get_put_eq _ e (by omega) (by omega), if_pos (by omega), show (j - base).toNat = k by omega]
    · rw [get_put_ne _ e, ih (by omega)]
      by_cases h : base ≤ j ∧ j < base + (k : Int)
      · rw [if_pos h, if_pos (by omega)]
      · rw [if_neg h, if_neg (by omega)]

theorem link_out (S : Sh) (o : List Nat) (j : Int) : ∀ m, (∀ a, a < m → j ≠ 1080 + ((o.getD a 0 : Nat) : Int) * 8) → (linkS S o m).get j = S.get j := by
  intro m
  induction m with
  | zero => intro _; rfl
  | succ m ih =>
    intro h
    simp only [linkS]
    rw [get_put_ne _ (h m (by omega))]
    exact ih (fun a ha => h a (by omega))
theorem link_in (S : Sh) (o : List Nat) (q : Nat) (ho : OwnOK o q) (a : Nat) : ∀ m, m ≤ q → a < m → (linkS S o m).get (1080 + ((o.getD a 0 : Nat) : Int) * 8) = ((o.getD (a + 1) 0 : Nat) : Int) := by
  intro m
  induction m with
  | zero => intro _ h; omega
  | succ m ih =>
    intro hm ha
    simp only [linkS]
    have h1 := ho.1 a (by omega)
    by_cases e : a = m
    · subst e
      rw [get_put_eq _ rfl (by omega) (by omega)]
    · have h2 := ho.ne (a := a) (b := m) (by omega) (by omega) e
      rw [get_put_ne _ (by omega)]
      exact ih (by omega) (by omega)

theorem ent3_out (S : Sh) (own : List Nat) (l : List En) (q : Nat) (j : Int) (hj : ∀ a, a < q → j < 1080 + ((own.getD a 0 : Nat) : Int) * 8 ∨ 1088 + ((own.getD a 0 : Nat) : Int) * 8 ≤ j) : ∀ m, m ≤ 3 * q → (ent3To S own l m).get j = S.get j := by
  intro m
  induction m with
  | zero => intro _; rfl
  | succ m ih =>
    intro hm
    simp only [ent3To]
    unfold ent3At
    have := hj (m / 3) (by omega)
    rw [get_put_ne _ (by omega), get_put_ne _ (by omega)]
    exact ih (by omega)

/-- A word of an entry. -/
def entW (l : List En) (k r : Nat) : Int := if r % 2 = 1 then ((nword (l.getD k default).name : Nat) : Int) else (l.getD k default).ino

theorem ent3_in (S : Sh) (own : List Nat) (l : List En) (q : Nat) (ho : OwnOK own q) (a : Nat) (ha : a < q) (r : Nat) (hr : r < 8) : ∀ m, m ≤ 3 * q →
    (ent3To S own l m).get (1080 + ((own.getD a 0 : Nat) : Int) * 8 + (r : Int)) = if (1 ≤ r ∧ r ≤ 6) ∧ 3 * a + (r - 1) / 2 < m then entW l (3 * a + (r - 1) / 2) r else S.get (1080 + ((own.getD a 0 : Nat) : Int) * 8 + (r : Int)) := by
  intro m
  have hb := ho.1 a ha
  induction m with
  | zero => intro _; rw [if_neg (by omega)]; rfl
  | succ m ih =>
    intro hm
    simp only [ent3To]
    unfold ent3At
    have hm4 : m / 3 < q := by omega
    by_cases e : (1 ≤ r ∧ r ≤ 6) ∧ m = 3 * a + (r - 1) / 2
    · obtain ⟨e0, e⟩ := e
      have e4 : m / 3 = a := by omega
      have e5 : m % 3 = (r - 1) / 2 := by omega
      rw [e4, e5, if_pos (by omega), ← e]
      unfold entW
      by_cases e2 : r % 2 = 1
      · rw [if_pos e2, get_put_ne _ (by omega), get_put_eq _ (by omega) (by omega) (by omega)]
      · rw [if_neg e2, get_put_eq _ (by omega) (by omega) (by omega)]
    · have hne : 1080 + ((own.getD a 0 : Nat) : Int) * 8 + (r : Int) ≠ 1080 + ((own.getD (m / 3) 0 : Nat) : Int) * 8 + 1 + 2 * ((m % 3 : Nat) : Int) ∧ 1080 + ((own.getD a 0 : Nat) : Int) * 8 + (r : Int) ≠ 1080 + ((own.getD (m / 3) 0 : Nat) : Int) * 8 + 1 + 2 * ((m % 3 : Nat) : Int) + 1 := by
        by_cases e4 : m / 3 = a
        · rw [e4]; omega
        · have := ho.ne hm4 ha e4
          omega
      rw [get_put_ne _ hne.2, get_put_ne _ hne.1, ih (by omega)]
      by_cases h : (1 ≤ r ∧ r ≤ 6) ∧ 3 * a + (r - 1) / 2 < m
      · rw [if_pos h, if_pos (by omega)]
      · rw [if_neg h, if_neg (by omega)]

theorem bucket2_out (S : Sh) (l : List En) (o : List Nat) (hd : o.length = (l.length + 2) / 3) (j : Int) (hj : ∀ a, a < o.length → j < 1080 + ((o.getD a 0 : Nat) : Int) * 8 ∨ 1088 + ((o.getD a 0 : Nat) : Int) * 8 ≤ j) : (bucket2S S l o).get j = S.get j := by
  unfold bucket2S
  rw [ent3_out _ o l o.length j hj l.length (by omega), link_out S o j o.length (fun a ha => by have := hj a ha; omega)]

theorem bucket2_in (S : Sh) (l : List En) (o : List Nat) (ho : OwnOK o o.length) (hd : o.length = (l.length + 2) / 3) (a : Nat) (ha : a < o.length) (r : Nat) (hr : r < 8) (hz : S.get (1080 + ((o.getD a 0 : Nat) : Int) * 8 + (r : Int)) = 0) :
    (bucket2S S l o).get (1080 + ((o.getD a 0 : Nat) : Int) * 8 + (r : Int)) = wd3 l o 0 o.length a r := by
  unfold bucket2S wd3
  rw [ent3_in _ o l o.length ho a ha r hr l.length (by omega)]
  by_cases h0 : r = 0
  · subst h0
    rw [if_neg (by omega), if_pos rfl]
    have := link_in S o o.length ho a o.length (Nat.le_refl _) ha
    rw [show (1080 + ((o.getD a 0 : Nat) : Int) * 8 + ((0 : Nat) : Int)) = 1080 + ((o.getD a 0 : Nat) : Int) * 8 by omega, this]
    by_cases h1 : a + 1 < o.length
    · rw [if_pos h1, Nat.zero_add]
    · rw [if_neg h1, List.getD_eq_getElem?_getD, List.getElem?_eq_none (by omega)]
      rfl
  · have hlk : (linkS S o o.length).get (1080 + ((o.getD a 0 : Nat) : Int) * 8 + (r : Int)) = 0 := by
      rw [link_out S o _ o.length (fun b hb => by omega)]
      exact hz
    rw [if_neg h0]
    by_cases h7 : r = 7
    · rw [if_pos h7, if_neg (by omega)]
      exact hlk
    · rw [if_neg h7]
      by_cases he : 3 * a + (r - 1) / 2 < l.length
      · rw [if_pos (by omega), if_pos he]
        rfl
      · rw [if_neg (by omega), if_neg he]
        exact hlk

theorem ownB_length {l : List En} {own : List Nat} {k : Nat} (h : sumB l (k + 1) ≤ own.length) : (ownB l own k).length = dB l k := by
  have : sumB l (k + 1) = sumB l k + dB l k := rfl
  unfold ownB
  rw [List.length_take, List.length_drop]
  unfold dB at *
  omega
theorem ownB_get {l : List En} {own : List Nat} {k a : Nat} (h : a < dB l k) : (ownB l own k).getD a 0 = own.getD (sumB l k + a) 0 := by
  show ((own.drop (sumB l k)).take (dB l k)).getD a 0 = _
  rw [take_getD2 _ _ _ h, List.getD_eq_getElem?_getD, List.getElem?_drop, ← List.getD_eq_getElem?_getD]
theorem wd3_ownB (l : List En) (own : List Nat) (k : Nat) (a r : Nat) : wd3 (bktL l k) (ownB l own k) 0 (dB l k) a r = wd3 (bktL l k) own (sumB l k) (dB l k) a r := by
  unfold wd3
  by_cases h0 : r = 0
  · rw [if_pos h0, if_pos h0]
    by_cases h1 : a + 1 < dB l k
    · rw [if_pos h1, if_pos h1, Nat.zero_add, ownB_get h1, Nat.add_assoc]
    · rw [if_neg h1, if_neg h1]
  · rw [if_neg h0, if_neg h0]

theorem sum_lt {l : List En} {b k a : Nat} (hb : b < k) (ha : a < dB l b) : sumB l b + a < sumB l k := by
  have h1 : sumB l (b + 1) = sumB l b + dB l b := rfl
  have h2 := sumB_mono l (a := b + 1) (b := k) hb
  omega
theorem ownB_ok {l : List En} {own : List Nat} (ho : OwnOK own own.length) {k : Nat} (h : sumB l (k + 1) ≤ own.length) : OwnOK (ownB l own k) (dB l k) := by
  have h1 : sumB l (k + 1) = sumB l k + dB l k := rfl
  refine ⟨fun a ha => ?_, fun a b hab hb => ?_⟩
  · rw [ownB_get ha]
    exact ho.1 _ (by omega)
  · rw [ownB_get (by omega), ownB_get hb]
    exact ho.2 _ _ (by omega) (by omega)

/-- A place in none of so many buckets' blocks. -/
def OutB (l : List En) (own : List Nat) (k : Nat) (j : Int) : Prop := ∀ b, b < k → ∀ a, a < dB l b → j < 1080 + ((own.getD (sumB l b + a) 0 : Nat) : Int) * 8 ∨ 1088 + ((own.getD (sumB l b + a) 0 : Nat) : Int) * 8 ≤ j

theorem dir2To_out (S : Sh) (at_ : Int) (l : List En) (own : List Nat) (j : Int) : ∀ k, sumB l k ≤ own.length → (∀ b : Nat, b < k → j ≠ at_ + 2 + (b : Int)) → OutB l own k j → (dir2To S at_ l own k).get j = S.get j := by
  intro k
  induction k with
  | zero => intro _ _ _; rfl
  | succ k ih =>
    intro hs h1 h2
    have hl := ownB_length (l := l) (own := own) hs
    simp only [dir2To]
    rw [get_put_ne _ (h1 k (by omega)), bucket2_out _ _ _ hl j (fun a ha => by rw [ownB_get (by omega)]; exact h2 k (by omega) a (by omega))]
    exact ih (Nat.le_trans (sumB_mono l (by omega)) hs) (fun b hb => h1 b (by omega)) (fun b hb => h2 b (by omega))

theorem dir2To_blk (S : Sh) {at_ : Int} (ha : 820 ≤ at_ ∧ at_ ≤ 1072) (l : List En) (own : List Nat) (ho : OwnOK own own.length) (b a r : Nat) (hab : a < dB l b) (hr : r < 8) (hz : S.get (1080 + ((own.getD (sumB l b + a) 0 : Nat) : Int) * 8 + (r : Int)) = 0) : ∀ k, k ≤ 4 → sumB l k ≤ own.length → b < k →
    (dir2To S at_ l own k).get (1080 + ((own.getD (sumB l b + a) 0 : Nat) : Int) * 8 + (r : Int)) = wd3 (bktL l b) own (sumB l b) (dB l b) a r := by
  intro k
  induction k with
  | zero => intro _ _ h; omega
  | succ k ih =>
    intro hk hs hb
    have hl := ownB_length (l := l) (own := own) hs
    have hsk : sumB l k ≤ own.length := Nat.le_trans (sumB_mono l (by omega)) hs
    have hs1 : sumB l (k + 1) = sumB l k + dB l k := rfl
    simp only [dir2To]
    rw [get_put_ne _ (by omega)]
    by_cases e : b = k
    · subst e
      have hin := bucket2_in (dir2To S at_ l own b) (bktL l b) (ownB l own b) (by rw [hl]; exact ownB_ok ho hs) hl a (by omega) r hr (by
        rw [ownB_get hab, dir2To_out S at_ l own _ b hsk (fun c hc => by omega) (fun c hc d hd => by
          have h1 := sum_lt hc hd
          have h2 := ho.2 _ _ (show sumB l c + d < sumB l b + a by omega) (by omega)
          omega)]
        exact hz)
      rw [ownB_get hab, hl, wd3_ownB] at hin
      exact hin
    · have hbk : b < k := by omega
      have h1 := sum_lt hbk hab
      rw [bucket2_out _ _ _ hl _ (fun c hc => by
        rw [ownB_get (by omega)]
        have h2 := ho.2 _ _ (show sumB l b + a < sumB l k + c by omega) (by omega)
        omega)]
      exact ih (by omega) hsk hbk

theorem dir2To_num (S : Sh) {at_ : Int} (ha : 820 ≤ at_ ∧ at_ ≤ 1072) (l : List En) (own : List Nat) (ho : OwnOK own own.length) (b : Nat) : ∀ k, k ≤ 4 → sumB l k ≤ own.length → b < k →
    (dir2To S at_ l own k).get (at_ + 2 + (b : Int)) = (((ownB l own b).getD 0 0 : Nat) : Int) := by
  intro k
  induction k with
  | zero => intro _ _ h; omega
  | succ k ih =>
    intro hk hs hb
    have hl := ownB_length (l := l) (own := own) hs
    have hsk : sumB l k ≤ own.length := Nat.le_trans (sumB_mono l (by omega)) hs
    simp only [dir2To]
    by_cases e : b = k
    · subst e
      rw [get_put_eq _ rfl (by omega) (by omega)]
    · rw [get_put_ne _ (by omega), bucket2_out _ _ _ hl _ (fun c hc => by omega)]
      exact ih (by omega) hsk (by omega)

theorem ownB_head (l : List En) (own : List Nat) (b : Nat) : (((ownB l own b).getD 0 0 : Nat) : Int) = if 0 < dB l b then ((own.getD (sumB l b) 0 : Nat) : Int) else 0 := by
  by_cases h : 0 < dB l b
  · rw [if_pos h, ownB_get h, Nat.add_zero]
  · rw [if_neg h]
    unfold ownB
    unfold dB at h
    rw [show ((bktL l b).length + 2) / 3 = 0 by omega, List.take_zero]
    rfl

theorem hitK_none (l : List En) (own : List Nat) (fr d : Nat) (i : Int) (f : Nat) : ∀ k, (∀ a, k ≤ a → a < k + f → i < 1080 + ((own.getD (fr + a) 0 : Nat) : Int) * 8 ∨ 1088 + ((own.getD (fr + a) 0 : Nat) : Int) * 8 ≤ i) → hitK l own fr d i k f = none := by
  induction f with
  | zero => intro k _; rfl
  | succ f ih =>
    intro k h
    simp only [hitK]
    have := h k (by omega) (by omega)
    rw [if_neg (by omega)]
    exact ih (k + 1) (fun a h1 h2 => h a (by omega) (by omega))
theorem hitK_some (l : List En) (own : List Nat) (fr d : Nat) (i : Int) (a r : Nat) (hr : r < 8) (hi : i = 1080 + ((own.getD (fr + a) 0 : Nat) : Int) * 8 + (r : Int)) (f : Nat) : ∀ k, k ≤ a → a < k + f → (∀ b, k ≤ b → b < a → own.getD (fr + b) 0 ≠ own.getD (fr + a) 0) → hitK l own fr d i k f = some (wd3 l own fr d a r) := by
  induction f with
  | zero => intro k h1 h2; omega
  | succ f ih =>
    intro k h1 h2 h3
    simp only [hitK]
    by_cases e : k = a
    · subst e
      rw [if_pos (by omega), show (i - 1080 - 8 * ((own.getD (fr + k) 0 : Nat) : Int)).toNat = r by omega]
    · have := h3 k (by omega) (by omega)
      rw [if_neg (by omega)]
      exact ih (k + 1) (by omega) (by omega) (fun b h4 h5 => h3 b (by omega) h5)

theorem wordB_skip {l : List En} {own : List Nat} {at_ i : Int} {b : Nat} (f : Nat) (h1 : i ≠ at_ + 2 + (b : Int)) (h2 : ∀ a, a < dB l b → i < 1080 + ((own.getD (sumB l b + a) 0 : Nat) : Int) * 8 ∨ 1088 + ((own.getD (sumB l b + a) 0 : Nat) : Int) * 8 ≤ i) : wordB l own at_ i b (f + 1) = wordB l own at_ i (b + 1) f := by
  simp only [wordB]
  rw [if_neg (by omega), hitK_none _ _ _ _ _ _ 0 (fun a _ ha => h2 a (by omega))]
theorem wordB_out (l : List En) (own : List Nat) (at_ i : Int) (f : Nat) : ∀ b, (∀ c : Nat, b ≤ c → c < b + f → i ≠ at_ + 2 + (c : Int)) → (∀ c, b ≤ c → c < b + f → ∀ a, a < dB l c → i < 1080 + ((own.getD (sumB l c + a) 0 : Nat) : Int) * 8 ∨ 1088 + ((own.getD (sumB l c + a) 0 : Nat) : Int) * 8 ≤ i) → wordB l own at_ i b f = (0, decide (i - at_ = 6 ∨ i - at_ = 7)) := by
  induction f with
  | zero => intro b _ _; rfl
  | succ f ih =>
    intro b h1 h2
    rw [wordB_skip f (h1 b (by omega) (by omega)) (h2 b (by omega) (by omega))]
    exact ih (b + 1) (fun c h3 h4 => h1 c (by omega) (by omega)) (fun c h3 h4 => h2 c (by omega) (by omega))
theorem wordB_num (l : List En) (own : List Nat) {at_ : Int} (ha : 820 ≤ at_ ∧ at_ ≤ 1072) (b : Nat) (hb4 : b < 4) (f : Nat) : ∀ b0, b0 ≤ b → b < b0 + f → wordB l own at_ (at_ + 2 + (b : Int)) b0 f = (if 0 < dB l b then ((own.getD (sumB l b) 0 : Nat) : Int) else 0, true) := by
  induction f with
  | zero => intro b0 h1 h2; omega
  | succ f ih =>
    intro b0 h1 h2
    by_cases e : b0 = b
    · subst e
      simp only [wordB]
      rw [if_pos (by omega)]
    · rw [wordB_skip f (by omega) (fun a _ => by omega)]
      exact ih (b0 + 1) (by omega) (by omega)
theorem wordB_blk (l : List En) (own : List Nat) {at_ : Int} (ha : 820 ≤ at_ ∧ at_ ≤ 1072) (ho : OwnOK own own.length) (b a r : Nat) (hs : sumB l (b + 1) ≤ own.length) (hb4 : b < 4) (hab : a < dB l b) (hr : r < 8) (i : Int) (hi : i = 1080 + ((own.getD (sumB l b + a) 0 : Nat) : Int) * 8 + (r : Int)) (f : Nat) : ∀ b0, b0 ≤ b → b < b0 + f → b0 + f ≤ 4 →
    wordB l own at_ i b0 f = (wd3 (bktL l b) own (sumB l b) (dB l b) a r, true) := by
  have hs1 : sumB l (b + 1) = sumB l b + dB l b := rfl
  induction f with
  | zero => intro b0 h1 h2; omega
  | succ f ih =>
    intro b0 h1 h2 h4
    by_cases e : b0 = b
    · subst e
      simp only [wordB]
      rw [if_neg (by omega), hitK_some _ _ _ _ _ a r hr hi _ 0 (by omega) (by omega) (fun c _ hc => ho.2 _ _ (by omega) (by omega))]
    · rw [wordB_skip f (by omega) (fun c hc => by
        have h5 := sum_lt (show b0 < b by omega) hc
        have h6 := ho.2 _ _ (show sumB l b0 + c < sumB l b + a by omega) (by omega)
        omega)]
      exact ih (b0 + 1) (by omega) (by omega) (by omega)

theorem dir2_word (S : Sh) {at_ : Int} (ha : 820 ≤ at_ ∧ at_ ≤ 1072) (l : List En) (own : List Nat) (ho : OwnOK own own.length) (hl : own.length = sumB l 4) (j : Int) (hj : 820 ≤ j ∧ j < 3128) (hz : (j < at_ ∨ at_ + 8 ≤ j) → S.get j = 0) (h0 : j ≠ at_) (h1 : j ≠ at_ + 1) :
    (dir2S S at_ l own).get j = (wordB l own at_ j 0 4).1 := by
  unfold dir2S
  rw [putN_get _ _ _ (by omega) 2 (by omega)]
  by_cases h67 : at_ + 6 ≤ j ∧ j < at_ + 6 + ((2 : Nat) : Int)
  · rw [if_pos h67, wordB_out l own at_ j 4 0 (fun c _ hc => by omega) (fun c _ hc a _ => by omega)]
  · rw [if_neg h67]
    by_cases hn : ∃ b : Nat, b < 4 ∧ j = at_ + 2 + (b : Int)
    · obtain ⟨b, hb, rfl⟩ := hn
      rw [dir2To_num S ha l own ho b 4 (by omega) (by omega) hb, wordB_num l own ha b hb 4 0 (by omega) (by omega), ownB_head]
    · have hn' : ∀ c : Nat, c < 4 → j ≠ at_ + 2 + (c : Int) := fun c hc e => hn ⟨c, hc, e⟩
      by_cases hk : ∃ b a, b < 4 ∧ a < dB l b ∧ 1080 + ((own.getD (sumB l b + a) 0 : Nat) : Int) * 8 ≤ j ∧ j < 1088 + ((own.getD (sumB l b + a) 0 : Nat) : Int) * 8
      · obtain ⟨b, a, hb, hab, h2, h3⟩ := hk
        obtain ⟨r, hr⟩ : ∃ r : Nat, r = (j - 1080 - ((own.getD (sumB l b + a) 0 : Nat) : Int) * 8).toNat := ⟨_, rfl⟩
        have hjr : j = 1080 + ((own.getD (sumB l b + a) 0 : Nat) : Int) * 8 + (r : Int) := by omega
        have hs : sumB l (b + 1) ≤ own.length := by rw [hl]; exact sumB_mono l (by omega)
        rw [wordB_blk l own ha ho b a r hs hb hab (by omega) j hjr 4 0 (by omega) (by omega) (by omega)]
        have hzz := hz (by omega)
        rw [hjr] at hzz ⊢
        exact dir2To_blk S ha l own ho b a r hab (by omega) hzz 4 (by omega) (by omega) hb
      · have hk' : OutB l own 4 j := fun b hb a hab => by
          by_cases h2 : j < 1080 + ((own.getD (sumB l b + a) 0 : Nat) : Int) * 8
          · exact .inl h2
          · by_cases h3 : 1088 + ((own.getD (sumB l b + a) 0 : Nat) : Int) * 8 ≤ j
            · exact .inr h3
            · exact absurd ⟨b, a, hb, hab, by omega, by omega⟩ hk
        have n0 := hn' 0 (by omega)
        have n1 := hn' 1 (by omega)
        have n2 := hn' 2 (by omega)
        have n3 := hn' 3 (by omega)
        rw [dir2To_out S at_ l own j 4 (by omega) hn' hk', wordB_out l own at_ j 4 0 (fun c _ hc => hn' c (by omega)) (fun c _ hc => hk' c (by omega))]
        exact hz (by omega)

theorem file2_word (S : Sh) {at_ : Int} (ha : 820 ≤ at_ ∧ at_ ≤ 1072) (R : List Int) (own : List Nat) (hob : ∀ b ∈ own, b < 256) (j : Int) (hj : 820 ≤ j ∧ j < 3128) (hz : (j < at_ ∨ at_ + 8 ≤ j) → S.get j = 0) (h0 : j ≠ at_) (h1 : j ≠ at_ + 1) :
    (file2S S at_ R own).get j = (if 2 ≤ j - at_ ∧ j - at_ < 8 then (fileV R own (j - at_ - 2).toNat, true)
     else if own ≠ [] ∧ 0 ≤ j - 1080 - 8 * ((own.getD 0 0 : Nat) : Int) ∧ j - 1080 - 8 * ((own.getD 0 0 : Nat) : Int) < 8 then (fileV R own (6 + (j - 1080 - 8 * ((own.getD 0 0 : Nat) : Int)).toNat), true)
     else (0, false)).1 := by
  have hx := getD_lt hob 0
  unfold file2S
  rw [putN_get _ _ _ (by omega) 6 (by omega)]
  by_cases h2 : 2 ≤ j - at_ ∧ j - at_ < 8
  · rw [if_pos (by omega), if_pos h2]
    dsimp only
    rw [show (j - (at_ + 2)).toNat = (j - at_ - 2).toNat by omega]
    obtain ⟨q, hq⟩ : ∃ q, q = (j - at_ - 2).toNat := ⟨_, rfl⟩
    rw [← hq]
    unfold w6f fileV
    by_cases hn : own = []
    · rw [if_neg (fun h => h.1 hn), if_pos hn, if_pos (by omega)]
    · rw [if_neg hn]
      by_cases h5 : q = 5
      · rw [if_pos ⟨hn, h5⟩, if_pos h5]
      · rw [if_neg (fun h => h5 h.2), if_neg h5, if_neg (by omega)]
  · rw [if_neg (by omega), if_neg h2]
    by_cases hn : own = []
    · rw [if_pos hn, if_neg (fun h => h.1 hn)]
      exact hz (by omega)
    · rw [if_neg hn, putN_get _ _ _ (by omega) 8 (by omega)]
      by_cases h3 : 0 ≤ j - 1080 - 8 * ((own.getD 0 0 : Nat) : Int) ∧ j - 1080 - 8 * ((own.getD 0 0 : Nat) : Int) < 8
      · rw [if_pos (by omega), if_pos ⟨hn, h3⟩]
        dsimp only
        obtain ⟨r, hr⟩ : ∃ r, r = (j - 1080 - 8 * ((own.getD 0 0 : Nat) : Int)).toNat := ⟨_, rfl⟩
        rw [← hr, show (j - (1080 + ((own.getD 0 0 : Nat) : Int) * 8)).toNat = r by omega]
        unfold fileV
        rw [if_neg hn, if_neg (by omega), if_pos (by omega), show 6 + r - 1 = 5 + r by omega]
      · rw [if_neg (by omega), if_neg (fun h => h3 h.2)]
        exact hz (by omega)

theorem put2_word (S : Sh) {at_ : Int} (ha : 820 ≤ at_ ∧ at_ ≤ 1072) (n : Ino) (own : List Nat) (hob : ∀ b ∈ own, b < 256) (ho : OwnOK own own.length) (hon : own.length = need2 n) (j : Int) (hj : 820 ≤ j ∧ j < 3128) (hz : (j < at_ ∨ at_ + 8 ≤ j) → S.get j = 0) :
    (put2S S at_ n own).get j = (word2At n at_ own j).1 := by
  have hz2 : (j < at_ ∨ at_ + 8 ≤ j) → ((S.put at_ (tagW n)).put (at_ + 1) n.size).get j = 0 := fun h => by rw [get_put_ne _ (by omega), get_put_ne _ (by omega)]; exact hz h
  unfold word2At put2S
  by_cases hk : n.kind = 1
  · rw [if_pos hk, if_pos hk]
    by_cases h0 : j = at_
    · rw [if_pos h0]
      unfold file2S
      rw [putN_get _ _ _ (by omega) 6 (by omega), if_neg (by omega)]
      by_cases hn : own = []
      · rw [if_pos hn, get_put_ne _ (by omega), get_put_eq _ h0 (by omega) (by omega)]
      · have hx := getD_lt hob 0
        rw [if_neg hn, putN_get _ _ _ (by omega) 8 (by omega), if_neg (by omega), get_put_ne _ (by omega), get_put_eq _ h0 (by omega) (by omega)]
    · rw [if_neg h0]
      by_cases h1 : j = at_ + 1
      · rw [if_pos h1]
        unfold file2S
        rw [putN_get _ _ _ (by omega) 6 (by omega), if_neg (by omega)]
        by_cases hn : own = []
        · rw [if_pos hn, get_put_eq _ h1 (by omega) (by omega)]
        · have hx := getD_lt hob 0
          rw [if_neg hn, putN_get _ _ _ (by omega) 8 (by omega), if_neg (by omega), get_put_eq _ h1 (by omega) (by omega)]
      · rw [if_neg h1]
        exact file2_word _ ha _ own hob j hj hz2 h0 h1
  · have hl : own.length = sumB n.ents 4 := by rw [hon]; unfold need2; rw [if_neg hk]
    rw [if_neg hk, if_neg hk]
    by_cases h0 : j = at_
    · rw [if_pos h0]
      unfold dir2S
      rw [putN_get _ _ _ (by omega) 2 (by omega), if_neg (by omega), dir2To_out _ _ _ _ _ 4 (by omega) (fun b hb => by omega) (fun b hb a hab => by omega), get_put_ne _ (by omega), get_put_eq _ h0 (by omega) (by omega)]
    · rw [if_neg h0]
      by_cases h1 : j = at_ + 1
      · rw [if_pos h1]
        unfold dir2S
        rw [putN_get _ _ _ (by omega) 2 (by omega), if_neg (by omega), dir2To_out _ _ _ _ _ 4 (by omega) (fun b hb => by omega) (fun b hb a hab => by omega), get_put_eq _ h1 (by omega) (by omega)]
      · rw [if_neg h1]
        exact dir2_word _ ha _ own ho hl j hj hz2 h0 h1

theorem put2_out (S : Sh) {at_ : Int} (ha : 820 ≤ at_ ∧ at_ ≤ 1072) (n : Ino) (own : List Nat) (hob : ∀ b ∈ own, b < 256) (hon : own.length = need2 n) (j : Int) (hj : j < at_ ∨ at_ + 8 ≤ j) (hx : ∀ a, a < own.length → j < 1080 + ((own.getD a 0 : Nat) : Int) * 8 ∨ 1088 + ((own.getD a 0 : Nat) : Int) * 8 ≤ j) :
    (put2S S at_ n own).get j = S.get j := by
  have hs : ((S.put at_ (tagW n)).put (at_ + 1) n.size).get j = S.get j := by rw [get_put_ne _ (by omega), get_put_ne _ (by omega)]
  unfold put2S
  by_cases hk : n.kind = 1
  · rw [if_pos hk]
    unfold file2S
    rw [putN_get _ _ _ (by omega) 6 (by omega), if_neg (by omega)]
    by_cases hn : own = []
    · rw [if_pos hn]; exact hs
    · have h1 := getD_lt hob 0
      have h2 := hx 0 (by cases own with | nil => exact absurd rfl hn | cons a l => simp)
      rw [if_neg hn, putN_get _ _ _ (by omega) 8 (by omega), if_neg (by omega)]
      exact hs
  · have hl : own.length = sumB n.ents 4 := by rw [hon]; unfold need2; rw [if_neg hk]
    rw [if_neg hk]
    unfold dir2S
    rw [putN_get _ _ _ (by omega) 2 (by omega), if_neg (by omega), dir2To_out _ _ _ _ _ 4 (by omega) (fun b hb => by omega) (fun b hb a hab => hx _ (by have := sum_lt hb hab; omega))]
    exact hs

theorem wordB_false (l : List En) (own : List Nat) (at_ i : Int) (f : Nat) : ∀ b, (wordB l own at_ i b f).2 = false → (wordB l own at_ i b f).1 = 0 := by
  induction f with
  | zero => intro b _; rfl
  | succ f ih =>
    intro b
    simp only [wordB]
    split
    · intro h; cases h
    · split
      · intro h; cases h
      · exact ih (b + 1)
theorem word2At_false (n : Ino) (at_ : Int) (own : List Nat) (i : Int) : (word2At n at_ own i).2 = false → (word2At n at_ own i).1 = 0 := by
  unfold word2At
  split
  · intro h; cases h
  · split
    · intro h; cases h
    · split
      · split
        · intro h; cases h
        · split
          · intro h; cases h
          · intro _; rfl
      · exact wordB_false _ _ _ _ 4 0

/-- What Read tells. -/
structure Laid2 (T : Sh) (i : Int) (m : Ino) (xs : List Nat) : Prop where
  len : xs.length = need2 m
  mem : ∀ b ∈ xs, 1 ≤ b ∧ b < 256
  pair : ∀ a b, a < b → b < xs.length → xs.getD a 0 ≠ xs.getD b 0
  ino : ∀ k : Nat, k < 8 → (word2At m (824 + i * 8) xs (824 + i * 8 + (k : Int))).1 = T.get (824 + i * 8 + (k : Int))
  blk : ∀ a, a < xs.length → ∀ r : Nat, r < 8 → (word2At m (824 + i * 8) xs (1080 + ((xs.getD a 0 : Nat) : Int) * 8 + (r : Int))).1 = T.get (1080 + ((xs.getD a 0 : Nat) : Int) * 8 + (r : Int))

theorem laid2_of {T : Sh} {i : Int} (hi : 0 ≤ i ∧ i < 32) {m : Ino} {xs : List Nat} (hob : ∀ b ∈ xs, b < 256) (he : ExactT T (824 + i * 8).toNat m xs) : Laid2 T i m xs := by
  obtain ⟨h1, h2, h3, h4⟩ := he
  have hat : (((824 + i * 8).toNat : Nat) : Int) = 824 + i * 8 := by omega
  rw [hat] at h4
  have ho : OwnOK xs xs.length := ⟨fun a ha => getD_lt hob a, fun a b hab hb => h2 a b hab hb⟩
  have hpw : ∀ j : Int, 820 ≤ j → j < 3128 → (put2S (Sh.new []) (824 + i * 8) m xs).get j = (word2At m (824 + i * 8) xs j).1 := fun j g1 g2 => put2_word _ (by omega) m xs hob ho h1 j ⟨g1, g2⟩ (fun _ => new_nil_get j)
  refine ⟨h1, fun b hb => ⟨?_, hob b hb⟩, h2, fun k hk => ?_, fun a ha r hr => ?_⟩
  · obtain ⟨q, hq, rfl⟩ := List.mem_iff_getElem.1 hb
    have := h3 q hq
    rw [List.getD_eq_getElem?_getD, List.getElem?_eq_getElem hq] at this
    simp only [Option.getD_some] at this
    omega
  · have h5 := h4 0 (by omega) k hk
    have e : (((frL (824 + i * 8).toNat xs).getD 0 0 : Nat) : Int) = 824 + i * 8 := hat
    rw [e] at h5
    rw [h5]
    exact (hpw _ (by omega) (by omega)).symm
  · have h5 := h4 (a + 1) (by omega) r hr
    have hx := getD_lt hob a
    have e : (((frL (824 + i * 8).toNat xs).getD (a + 1) 0 : Nat) : Int) = 1080 + ((xs.getD a 0 : Nat) : Int) * 8 := by
      unfold frL
      rw [List.getD_cons_succ, List.getD_eq_getElem?_getD, List.getElem?_map, List.getElem?_eq_getElem ha, List.getD_eq_getElem?_getD, List.getElem?_eq_getElem ha]
      simp
    rw [e] at h5
    rw [h5]
    exact (hpw _ (by omega) (by omega)).symm

theorem finR2_some {T : Sh} {a : Nat} {n m : Ino} {own xs : List Nat} (h : finR2 T a n own = some (m, xs)) : m = n ∧ xs = own ∧ RightP n ∧ ExactT T a n own := by
  unfold finR2 at h
  split at h
  · rename_i hc
    simp only [Option.some.injEq, Prod.mk.injEq] at h
    exact ⟨h.1.symm, h.2.symm, hc.1, hc.2⟩
  · cases h

theorem rd2_some {T : Sh} (hS : T.Ok) {i : Int} {m : Ino} {xs : List Nat} (h : rd2 T i = some (m, xs)) : (0 ≤ i ∧ i < 32) ∧ m.Ok ∧ RightP m ∧ m.format = 2 ∧ Laid2 T i m xs := by
  unfold rd2 at h
  by_cases hi : i < 0 ∨ 32 ≤ i
  · rw [if_pos hi] at h; cases h
  · rw [if_neg hi] at h
    have hi2 : 0 ≤ i ∧ i < 32 := by omega
    refine ⟨hi2, ?_⟩
    unfold rd2At at h
    by_cases hf : (headN T (((824 + i * 8).toNat : Nat) : Int)).format ≠ 2
    · rw [if_pos hf] at h; cases h
    · have hf2 : (headN T (((824 + i * 8).toNat : Nat) : Int)).format = 2 := Classical.not_not.1 hf
      rw [if_neg hf] at h
      split at h
      · cases hr : runs2 T (((824 + i * 8).toNat : Nat) : Int) with
        | none => rw [hr] at h; cases h
        | some r =>
          rw [hr, Option.bind_some] at h
          obtain ⟨l1, l2, l3⟩ := runs2_law hr
          obtain ⟨rfl, rfl, h1, h2⟩ := finR2_some h
          exact ⟨headN_blok hS _ l1 l2, h1, hf2, laid2_of hi2 l3 h2⟩
      · split at h
        · cases hr : names2To T (824 + i * 8).toNat 4 with
          | none => rw [hr] at h; cases h
          | some r =>
            rw [hr, Option.bind_some] at h
            obtain ⟨l1, l2⟩ := names2_law hS _ 4 r hr
            obtain ⟨rfl, rfl, h1, h2⟩ := finR2_some h
            exact ⟨headN_ents hS _ l1, h1, hf2, laid2_of hi2 l2 h2⟩
        · obtain ⟨rfl, rfl, h1, h2⟩ := finR2_some h
          exact ⟨headN_ok hS _, h1, hf2, laid2_of hi2 (fun b hb => by cases hb) h2⟩
end Go.Proofs.Ytfpnmphmngdkdaa
