/-
  What each word is when an inode was laid; what is read of such words; what exact words say: plain lemmas.
-/
import Derived.Test.YtfpnmphmngdkdaaRd1M
import Derived.Test.YtfpnmphmngdkdaaPackBack
namespace Go.Proofs.Ytfpnmphmngdkdaa
set_option linter.unusedSimpArgs false
set_option linter.unusedVariables false

theorem get_put (S : Sh) (i v j : Int) : (S.put i v).get j = if j = i ∧ 0 ≤ i ∧ i < 3128 then v else S.get j := by
  unfold Sh.put
  by_cases h : 0 ≤ i ∧ i < 3128
  · rw [if_pos h]
    unfold Sh.get upd
    dsimp only
    by_cases hj : 0 ≤ j ∧ j < 3128
    · rw [if_pos hj, if_pos hj]
      by_cases e : j = i
      · rw [if_pos (by omega), if_pos ⟨e, h⟩]
      · rw [if_neg (by omega), if_neg (fun hh => e hh.1)]
    · rw [if_neg hj, if_neg hj, if_neg (fun hh => hj (by omega))]
  · rw [if_neg h, if_neg (fun hh => h hh.2)]

theorem get_put_ne (S : Sh) {i v j : Int} (h : j ≠ i) : (S.put i v).get j = S.get j := by rw [get_put, if_neg (fun hh => h hh.1)]
theorem get_put_eq (S : Sh) {i v j : Int} (h : j = i) (h0 : 0 ≤ i) (h1 : i < 3128) : (S.put i v).get j = v := by rw [get_put, if_pos ⟨h, h0, h1⟩]

/-- Nothing but the inode's and the list's words. -/
theorem numbersTo_out (S : Sh) (at_ : Int) (l : List Int) (list : Int) : ∀ m, m ≤ 13 → ∀ j, (j < at_ + 2 ∨ at_ + 7 ≤ j) → (list ≠ 0 → j < 1080 + list * 8 ∨ 1088 + list * 8 ≤ j) → (numbersTo S at_ l list m).get j = S.get j := by
  intro m
  induction m with
  | zero => intro _ j _ _; rfl
  | succ m ih =>
    intro hm j h1 h2
    simp only [numbersTo]
    unfold numberAt
    split
    · rw [get_put_ne _ (by omega)]
      exact ih (by omega) j h1 h2
    · split
      · rename_i h3 h4
        have := h2 h4
        rw [get_put_ne _ (by omega)]
        exact ih (by omega) j h1 h2
      · exact ih (by omega) j h1 h2

theorem numbersTo_num (S : Sh) {at_ : Int} (l : List Int) {list : Int} (ha : 820 ≤ at_ ∧ at_ ≤ 1072) (hli : 0 ≤ list ∧ list < 256) : ∀ m, m ≤ 13 → ∀ k, k < 5 → k < m → (numbersTo S at_ l list m).get (at_ + 2 + (k : Int)) = l.getD k 0 := by
  intro m
  induction m with
  | zero => intro _ k _ h; omega
  | succ m ih =>
    intro hm k h1 h2
    simp only [numbersTo]
    unfold numberAt
    by_cases e : k = m
    · subst e
      rw [if_pos h1, get_put_eq _ rfl (by omega) (by omega)]
    · split
      · rw [get_put_ne _ (by omega)]
        exact ih (by omega) k h1 (by omega)
      · split
        · rw [get_put_ne _ (by omega)]
          exact ih (by omega) k h1 (by omega)
        · exact ih (by omega) k h1 (by omega)

theorem numbersTo_lst (S : Sh) {at_ : Int} (l : List Int) {list : Int} (ha : 820 ≤ at_ ∧ at_ ≤ 1072) (hli : 0 ≤ list ∧ list < 256) (hl0 : list ≠ 0) : ∀ m, m ≤ 13 → ∀ w : Nat, w < 8 → 5 + w < m → (numbersTo S at_ l list m).get (1080 + list * 8 + (w : Int)) = l.getD (5 + w) 0 := by
  intro m
  induction m with
  | zero => intro _ k _ h; omega
  | succ m ih =>
    intro hm w h1 h2
    simp only [numbersTo]
    unfold numberAt
    by_cases e : 5 + w = m
    · subst e
      rw [if_neg (by omega), if_pos hl0, get_put_eq _ (by omega) (by omega) (by omega)]
    · rw [if_neg (by omega), if_pos hl0, get_put_ne _ (by omega)]
      exact ih (by omega) w h1 (by omega)

/-- Own blocks, each there once. -/
def OwnOK (own : List Nat) (q : Nat) : Prop := (∀ a, a < q → own.getD a 0 < 256) ∧ ∀ a b, a < b → b < q → own.getD a 0 ≠ own.getD b 0
theorem OwnOK.ne {own : List Nat} {q : Nat} (h : OwnOK own q) {a b : Nat} (ha : a < q) (hb : b < q) (hne : a ≠ b) : own.getD a 0 ≠ own.getD b 0 := by
  by_cases hlt : a < b
  · exact h.2 a b hlt hb
  · exact fun e => h.2 b a (by omega) ha e.symm

theorem entriesTo_out (S : Sh) (own : List Nat) (l : List En) (q : Nat) (j : Int) (hj : ∀ a, a < q → j < 1080 + ((own.getD a 0 : Nat) : Int) * 8 ∨ 1088 + ((own.getD a 0 : Nat) : Int) * 8 ≤ j) : ∀ m, m ≤ 4 * q → (entriesTo S own l m).get j = S.get j := by
  intro m
  induction m with
  | zero => intro _; rfl
  | succ m ih =>
    intro hm
    simp only [entriesTo]
    unfold entryAt
    have := hj (m / 4) (by omega)
    rw [get_put_ne _ (by omega), get_put_ne _ (by omega)]
    exact ih (by omega)

/-- A word of an entry. -/
def entV (l : List En) (k r : Nat) : Int := if r % 2 = 0 then ((nword (l.getD k default).name : Nat) : Int) else (l.getD k default).ino

theorem entriesTo_in (S : Sh) (own : List Nat) (l : List En) (q : Nat) (ho : OwnOK own q) (a : Nat) (ha : a < q) (r : Nat) (hr : r < 8) : ∀ m, m ≤ 4 * q →
    (entriesTo S own l m).get (1080 + ((own.getD a 0 : Nat) : Int) * 8 + (r : Int)) = if 4 * a + r / 2 < m then entV l (4 * a + r / 2) r else S.get (1080 + ((own.getD a 0 : Nat) : Int) * 8 + (r : Int)) := by
  intro m
  have hb := ho.1 a ha
  induction m with
  | zero => intro _; rw [if_neg (by omega)]; rfl
  | succ m ih =>
    intro hm
    simp only [entriesTo]
    unfold entryAt
    have hm4 : m / 4 < q := by omega
    by_cases e : m = 4 * a + r / 2
    · have e4 : m / 4 = a := by omega
      have e5 : m % 4 = r / 2 := by omega
      rw [e4, e5, if_pos (by omega), ← e]
      unfold entV
      by_cases e2 : r % 2 = 0
      · rw [if_pos e2, get_put_ne _ (by omega), get_put_eq _ (by omega) (by omega) (by omega)]
      · rw [if_neg e2, get_put_eq _ (by omega) (by omega) (by omega)]
    · have hne : 1080 + ((own.getD a 0 : Nat) : Int) * 8 + (r : Int) ≠ 1080 + ((own.getD (m / 4) 0 : Nat) : Int) * 8 + 2 * ((m % 4 : Nat) : Int) ∧ 1080 + ((own.getD a 0 : Nat) : Int) * 8 + (r : Int) ≠ 1080 + ((own.getD (m / 4) 0 : Nat) : Int) * 8 + 2 * ((m % 4 : Nat) : Int) + 1 := by
        by_cases e4 : m / 4 = a
        · rw [e4]; omega
        · have := ho.ne hm4 ha e4
          omega
      rw [get_put_ne _ hne.2, get_put_ne _ hne.1, ih (by omega)]
      by_cases h : 4 * a + r / 2 < m
      · rw [if_pos h, if_pos (by omega)]
      · rw [if_neg h, if_neg (by omega)]

/-- The words of an inode that was laid, with its own blocks. -/
structure LaidQ (T : Sh) (at_ : Int) (n : Ino) (own : List Nat) (list : Int) : Prop where
  tag : T.get at_ = tagW n
  size : T.get (at_ + 1) = n.size
  num : ∀ k : Nat, k < 5 → T.get (at_ + 2 + (k : Int)) = (blOf n own).getD k 0
  lis : T.get (at_ + 7) = list
  ent : ∀ a, a < need1 n → ∀ r : Nat, r < 8 → T.get (1080 + ((own.getD a 0 : Nat) : Int) * 8 + (r : Int)) = if 4 * a + r / 2 < n.ents.length then entV n.ents (4 * a + r / 2) r else 0
  lst : list ≠ 0 → ∀ w : Nat, w < 8 → T.get (1080 + list * 8 + (w : Int)) = (blOf n own).getD (5 + w) 0

theorem lay1Q_laid (S : Sh) {at_ : Int} (ha : 820 ≤ at_ ∧ at_ ≤ 1072) (n : Ino) (own : List Nat) {list : Int} (hli : 0 ≤ list ∧ list < 256) (ho : OwnOK own (need1 n)) (hne : ∀ a, a < need1 n → list ≠ 0 → ((own.getD a 0 : Nat) : Int) ≠ list)
    (hz : ∀ a, a < need1 n → ∀ r : Nat, r < 8 → S.get (1080 + ((own.getD a 0 : Nat) : Int) * 8 + (r : Int)) = 0) : LaidQ (lay1Q S at_ n own list) at_ n own list := by
  have hq : n.ents.length ≤ 4 * need1 n := by unfold need1; omega
  have hlow : ∀ (X : Sh) (j : Int), j < 1080 → (entriesS X own n.ents).get j = X.get j := fun X j hj => entriesTo_out X own n.ents (need1 n) j (fun a _ => .inl (by omega)) _ hq
  have hlst : list ≠ 0 → ∀ (X : Sh) (w : Nat), w < 8 → (entriesS X own n.ents).get (1080 + list * 8 + (w : Int)) = X.get (1080 + list * 8 + (w : Int)) := fun h0 X w hw => entriesTo_out X own n.ents (need1 n) _ (fun a ha => by have := hne a ha h0; omega) _ hq
  unfold lay1Q
  refine ⟨?_, ?_, fun k hk => ?_, ?_, fun a ha' r hr => ?_, fun h0 w hw => ?_⟩
  · rw [hlow _ _ (by omega)]
    unfold numbersS
    rw [get_put_ne _ (by omega), numbersTo_out _ _ _ _ 13 (by omega) _ (by omega) (fun _ => by omega), get_put_ne _ (by omega), get_put_eq _ rfl (by omega) (by omega)]
  · rw [hlow _ _ (by omega)]
    unfold numbersS
    rw [get_put_ne _ (by omega), numbersTo_out _ _ _ _ 13 (by omega) _ (by omega) (fun _ => by omega), get_put_eq _ rfl (by omega) (by omega)]
  · rw [hlow _ _ (by omega)]
    unfold numbersS
    rw [get_put_ne _ (by omega), numbersTo_num _ _ ha hli 13 (by omega) k hk (by omega)]
  · rw [hlow _ _ (by omega)]
    unfold numbersS
    rw [get_put_eq _ rfl (by omega) (by omega)]
  · have hb := ho.1 a ha'
    show (entriesTo _ own n.ents n.ents.length).get _ = _
    rw [entriesTo_in _ own n.ents (need1 n) ho a ha' r hr _ hq]
    split
    · rfl
    · unfold numbersS
      rw [get_put_ne _ (by omega), numbersTo_out _ _ _ _ 13 (by omega) _ (by omega) (fun h0 => by have := hne a ha' h0; omega), get_put_ne _ (by omega), get_put_ne _ (by omega)]
      exact hz a ha' r hr
  · rw [hlst h0 _ w hw]
    unfold numbersS
    rw [get_put_ne _ (by omega), numbersTo_lst _ _ ha hli h0 13 (by omega) w hw (by omega)]

/-- Every other word stays. -/
theorem lay1Q_out (S : Sh) {at_ : Int} (n : Ino) (own : List Nat) {list : Int} (j : Int) (hj : j < at_ ∨ at_ + 8 ≤ j) (ho : ∀ a, a < need1 n → j < 1080 + ((own.getD a 0 : Nat) : Int) * 8 ∨ 1088 + ((own.getD a 0 : Nat) : Int) * 8 ≤ j)
    (hl : list ≠ 0 → j < 1080 + list * 8 ∨ 1088 + list * 8 ≤ j) : (lay1Q S at_ n own list).get j = S.get j := by
  have hq : n.ents.length ≤ 4 * need1 n := by unfold need1; omega
  unfold lay1Q
  rw [show (entriesS (numbersS ((S.put at_ (tagW n)).put (at_ + 1) n.size) at_ (blOf n own) list) own n.ents).get j = (numbersS ((S.put at_ (tagW n)).put (at_ + 1) n.size) at_ (blOf n own) list).get j from entriesTo_out _ own n.ents (need1 n) j ho _ hq]
  unfold numbersS
  rw [get_put_ne _ (by omega), numbersTo_out _ _ _ _ 13 (by omega) _ (by omega) hl, get_put_ne _ (by omega), get_put_ne _ (by omega)]

theorem new_nil_get (j : Int) : (Sh.new []).get j = 0 := by
  unfold Sh.get Sh.new
  dsimp only
  split
  · split
    · simp
    · rfl
  · rfl

theorem eight {P : Int → Prop} {at_ : Int} (h0 : P at_) (h1 : P (at_ + 1)) (h2 : ∀ k : Nat, k < 5 → P (at_ + 2 + (k : Int))) (h7 : P (at_ + 7)) : ∀ k : Nat, k < 8 → P (at_ + (k : Int)) := by
  intro k hk
  by_cases e0 : k = 0
  · subst e0; rw [show at_ + ((0 : Nat) : Int) = at_ by omega]; exact h0
  · by_cases e1 : k = 1
    · subst e1; exact h1
    · by_cases e7 : k = 7
      · subst e7; exact h7
      · have := h2 (k - 2) (by omega)
        rw [show at_ + 2 + ((k - 2 : Nat) : Int) = at_ + (k : Int) by omega] at this
        exact this

/-- Exact words are an inode's that was laid, and the other way about. -/
theorem exactP_iff (S : Sh) {at_ : Int} (ha : 820 ≤ at_ ∧ at_ ≤ 1072) (n : Ino) (own : List Nat) {list : Int} (hli : 0 ≤ list ∧ list < 256) (hon : own.length = need1 n) (ho : OwnOK own (need1 n)) (hne : ∀ a, a < need1 n → list ≠ 0 → ((own.getD a 0 : Nat) : Int) ≠ list) :
    ExactP S at_ n own list ↔ LaidQ S at_ n own list ∧ (list ≠ 0 ↔ LongP (blOf n own)) := by
  have hT := lay1Q_laid (Sh.new []) ha n own hli ho hne (fun _ _ _ _ => new_nil_get _)
  unfold ExactP
  constructor
  · rintro ⟨h1, h2, h3, h4⟩
    refine ⟨⟨?_, ?_, fun k hk => ?_, ?_, fun a ha' r hr => ?_, fun h0 w hw => ?_⟩, h2⟩
    · have := h1 0 (by omega)
      rw [show at_ + ((0 : Nat) : Int) = at_ by omega] at this
      rw [this, hT.tag]
    · exact (h1 1 (by omega)).trans hT.size
    · have := h1 (k + 2) (by omega)
      rw [show at_ + ((k + 2 : Nat) : Int) = at_ + 2 + (k : Int) by omega] at this
      rw [this, hT.num k hk]
    · exact (h1 7 (by omega)).trans hT.lis
    · rw [h3 a (by omega) r hr, hT.ent a ha' r hr]
    · rw [h4 h0 w hw, hT.lst h0 w hw]
  · rintro ⟨h, h2⟩
    refine ⟨?_, h2, fun a ha' r hr => ?_, fun h0 w hw => ?_⟩
    · refine eight (P := fun j => S.get j = (lay1Q (Sh.new []) at_ n own list).get j) ?_ ?_ (fun k hk => ?_) ?_
      · rw [h.tag, hT.tag]
      · rw [h.size, hT.size]
      · rw [h.num k hk, hT.num k hk]
      · rw [h.lis, hT.lis]
    · rw [h.ent a (by omega) r hr, hT.ent a (by omega) r hr]
    · rw [h.lst h0 w hw, hT.lst h0 w hw]

theorem blockI_id {x : Int} (h : 0 ≤ x ∧ x < 256) : blockI x = x := by unfold blockI; rw [if_neg (by omega)]

theorem tagW_parts {n : Ino} (hf : n.format = 1) (hk : 0 ≤ n.kind ∧ n.kind < 256) (hl : 0 ≤ n.links ∧ n.links < 65536) : tagW n % 256 = n.format ∧ tagW n / 256 % 256 = n.kind ∧ tagW n / 65536 % 65536 = n.links := by
  unfold tagW
  omega

theorem blOf_range {n : Ino} (hr : RightP n) (hl : n.bl.length = 13) {own : List Nat} (hx : need1 n ≤ own.length) (ho : OwnOK own (need1 n)) (k : Nat) (hk : k < 13) : 0 ≤ (blOf n own).getD k 0 ∧ (blOf n own).getD k 0 < 256 := by
  rw [blOf_get hl own hx k hk]
  split
  · rename_i h
    have := ho.1 k h
    omega
  · exact hr.blk k hk

theorem readL_laid {T : Sh} {at_ : Int} {n : Ino} {own : List Nat} {list : Int} (h : LaidQ T at_ n own list) (hli : 0 ≤ list ∧ list < 256) : readL T at_ = list := by
  unfold readL
  rw [h.lis, blockI_id hli]

theorem readTo_laid {T : Sh} {at_ : Int} {n : Ino} {own : List Nat} {list : Int} (h : LaidQ T at_ n own list) (hli : 0 ≤ list ∧ list < 256) (hr : RightP n) (hl : n.bl.length = 13) (hx : need1 n ≤ own.length) (ho : OwnOK own (need1 n)) (hlong : list ≠ 0 ↔ LongP (blOf n own)) (h13 : need1 n ≤ 13) : readTo T at_ 13 = blOf n own := by
  apply List.ext_getElem
  · rw [readTo_len, blOf_len n hl own hx h13]
  · intro k h1 h2
    have hk : k < 13 := by rw [readTo_len] at h1; exact h1
    have e1 : (readTo T at_ 13)[k] = (readTo T at_ 13).getD k 0 := by rw [List.getD_eq_getElem?_getD, List.getElem?_eq_getElem h1]; rfl
    have e2 : (blOf n own)[k] = (blOf n own).getD k 0 := by rw [List.getD_eq_getElem?_getD, List.getElem?_eq_getElem h2]; rfl
    have hb := blOf_range hr hl hx ho k hk
    refine e1.trans (Eq.trans ?_ e2.symm)
    rw [readTo_get T at_ 13 k hk, if_pos hk]
    unfold readB
    split
    · rename_i h5
      rw [h.num k h5, blockI_id hb]
    · rename_i h5
      rw [readL_laid h hli]
      split
      · rename_i h0
        have := h.lst (by omega) (k - 5) (by omega)
        rw [show 1080 + list * 8 + ((k - 5 : Nat) : Int) = 1080 + list * 8 + (k : Int) - 5 by omega, show 5 + (k - 5) = k by omega] at this
        rw [this, blockI_id hb]
      · rename_i h0
        by_cases e : (blOf n own).getD k 0 = 0
        · exact e.symm
        · exact absurd (hlong.2 ⟨k, by omega, hk, e⟩) (by omega)

theorem readN_laid {T : Sh} {at_ : Int} {n : Ino} {own : List Nat} {list : Int} (h : LaidQ T at_ n own list) (hli : 0 ≤ list ∧ list < 256) (hr : RightP n) (hf : n.format = 1) (hl : n.bl.length = 13) (hx : need1 n ≤ own.length) (ho : OwnOK own (need1 n)) (hlong : list ≠ 0 ↔ LongP (blOf n own)) :
    readN T at_ = ⟨n.format, n.kind, n.links, n.size, blOf n own, []⟩ := by
  have h6 := need1_le hr
  obtain ⟨s1, s2, s3, s4⟩ := hr.small
  have ht := tagW_parts hf s2 s3
  show (⟨T.get at_ % 256, T.get at_ / 256 % 256, T.get at_ / 65536 % 65536, if 1048576 < T.get (at_ + 1) then 1048576 else T.get (at_ + 1), readTo T at_ 13, []⟩ : Ino) = _
  rw [readTo_laid h hli hr hl hx ho hlong (by omega), h.tag, h.size, ht.1, ht.2.1, ht.2.2, if_neg (by omega)]

theorem namesTo_laid {T : Sh} {at_ : Int} {n : Ino} {own : List Nat} {list : Int} (h : LaidQ T at_ n own list) (hr : RightP n) (hl : n.bl.length = 13) (hx : need1 n ≤ own.length) (ho : OwnOK own (need1 n)) (hpos : ∀ a, a < need1 n → 1 ≤ own.getD a 0) :
    ∀ m, m ≤ n.ents.length → namesTo T (blOf n own) m = some (n.ents.take m, own.take ((m + 3) / 4)) := by
  have h6 := need1_le hr
  have h24 := hr.ents
  intro m
  induction m with
  | zero => intro _; simp [namesTo]
  | succ m ih =>
    intro hm
    simp only [namesTo]
    rw [ih (by omega), Option.bind_some]
    unfold namesStep
    have hq : m / 4 < need1 n := by unfold need1; omega
    have hb : (blOf n own).getD (m / 4) 0 = ((own.getD (m / 4) 0 : Nat) : Int) := by rw [blOf_get hl own hx (m / 4) (by omega), if_pos hq]
    have hp := hpos _ hq
    rw [hb, if_neg (by omega)]
    have e1 := h.ent (m / 4) hq (2 * (m % 4)) (by omega)
    have e2 := h.ent (m / 4) hq (2 * (m % 4) + 1) (by omega)
    rw [show 4 * (m / 4) + 2 * (m % 4) / 2 = m by omega, if_pos (by omega)] at e1
    rw [show 4 * (m / 4) + (2 * (m % 4) + 1) / 2 = m by omega, if_pos (by omega)] at e2
    unfold entV at e1 e2
    rw [if_pos (by omega)] at e1
    rw [if_neg (by omega)] at e2
    rw [show 1080 + ((own.getD (m / 4) 0 : Nat) : Int) * 8 + ((2 * (m % 4) : Nat) : Int) = 1080 + ((own.getD (m / 4) 0 : Nat) : Int) * 8 + 2 * ((m % 4 : Nat) : Int) by omega] at e1
    rw [show 1080 + ((own.getD (m / 4) 0 : Nat) : Int) * 8 + ((2 * (m % 4) + 1 : Nat) : Int) = 1080 + ((own.getD (m / 4) 0 : Nat) : Int) * 8 + 2 * ((m % 4 : Nat) : Int) + 1 by omega] at e2
    obtain ⟨g1, -, g2, g3⟩ := hr.entOK m (by omega)
    rw [e1, e2, Int.toNat_natCast, if_pos ⟨isName_nword g1, g3⟩, wtext_nword (good_size g1).2]
    have hget : n.ents.getD m default = n.ents[m]'(by omega) := by rw [List.getD_eq_getElem?_getD, List.getElem?_eq_getElem (by omega)]; rfl
    have hsn : n.ents.take (m + 1) = n.ents.take m ++ [n.ents.getD m default] := by
      rw [hget, List.take_succ_eq_append_getElem (by omega)]
    have hown : (if m % 4 = 0 then own.take ((m + 3) / 4) ++ [(((own.getD (m / 4) 0 : Nat) : Int)).toNat] else own.take ((m + 3) / 4)) = own.take ((m + 1 + 3) / 4) := by
      by_cases e : m % 4 = 0
      · rw [if_pos e, Int.toNat_natCast, show (m + 3) / 4 = m / 4 by omega, show (m + 1 + 3) / 4 = m / 4 + 1 by omega]
        have hlt : m / 4 < own.length := by omega
        rw [List.take_succ_eq_append_getElem hlt, List.getD_eq_getElem?_getD, List.getElem?_eq_getElem hlt]
        rfl
      · rw [if_neg e, show (m + 1 + 3) / 4 = (m + 3) / 4 by omega]
    dsimp only
    rw [hown, hsn]

/-- What was laid is read. -/
theorem rd_of_laid {T : Sh} {at_ : Int} (ha : 820 ≤ at_ ∧ at_ ≤ 1072) {n : Ino} {own : List Nat} {list : Int} (h : LaidQ T at_ n own list) (hli : 0 ≤ list ∧ list < 256) (hr : RightP n) (hf : n.format = 1) (hl : n.bl.length = 13) (hon : own.length = need1 n) (ho : OwnOK own (need1 n))
    (hpos : ∀ a, a < need1 n → 1 ≤ own.getD a 0) (hlong : list ≠ 0 ↔ LongP (blOf n own)) (hne : ∀ a, a < need1 n → list ≠ 0 → ((own.getD a 0 : Nat) : Int) ≠ list) (hap : apartB (allOf own list) = true) : rdAt T at_ = some (n, allOf own list) := by
  have hrn := readN_laid h hli hr hf hl (by omega) ho hlong
  have hrl := readL_laid h hli
  have hex : ExactP T at_ n own list := (exactP_iff T ha n own hli hon ho hne).2 ⟨h, hlong⟩
  unfold rdAt
  rw [hrl, hrn, if_neg (by rw [hf]; omega)]
  dsimp only
  by_cases hk : n.kind = 2
  · rw [if_pos hk]
    rcases hr.2.2.2 with ⟨h1, -⟩ | ⟨-, hd⟩
    · omega
    · have hsz : min n.size.toNat 24 = n.ents.length := by have := hd.2.1; have := hd.2.2.1; omega
      rw [hsz, namesTo_laid h hr hl (by omega) ho hpos _ (Nat.le_refl _), Option.bind_some, List.take_length]
      have e1 : own.take ((n.ents.length + 3) / 4) = own := by
        rw [show (n.ents.length + 3) / 4 = own.length by rw [hon]; rfl, List.take_length]
      have hz : n.bl = zbl := by
        apply List.ext_getElem
        · rw [hl]; rfl
        · intro k h1 h2
          have := hd.2.2.2 k (by omega)
          rw [List.getD_eq_getElem?_getD, List.getElem?_eq_getElem h1] at this
          simp only [Option.getD_some] at this
          rw [this]
          exact (zbl_mem (List.getElem_mem h2)).symm
      have e2 : ({ format := n.format, kind := n.kind, links := n.links, size := n.size, bl := zbl, ents := n.ents } : Ino) = n := by rw [← hz]
      dsimp only
      rw [e1, e2]
      unfold finR
      rw [if_pos ⟨hr, hap, hex⟩]
  · rw [if_neg hk]
    rcases hr.2.2.2 with ⟨-, hfi⟩ | ⟨h1, -⟩
    · have hn0 : need1 n = 0 := by unfold need1; rw [hfi.2.2.2]; rfl
      have e0 : own = [] := List.eq_nil_of_length_eq_zero (by omega)
      subst e0
      have e1 : blOf n [] = n.bl := by unfold blOf; rw [hn0]; simp
      have e2 : ({ format := n.format, kind := n.kind, links := n.links, size := n.size, bl := blOf n [], ents := [] } : Ino) = n := by rw [e1, ← hfi.2.2.2]
      rw [e2]
      unfold finR
      rw [if_pos ⟨hr, hap, hex⟩]
    · omega

end Go.Proofs.Ytfpnmphmngdkdaa
